/-
  PkN, Comp9, Deep5, put together.
-/
import Derived.Test.YtnkefclbchpafaaZ30TabL
import Derived.Test.YtnkefclbchpafaaZ27Lay9
import Derived.Test.YtnkefclbchpafaaZ29Grt9
import Derived.Test.YtnkefclbchpafaaZ19RefSndE

/-
  The program of a tree that may be asked is not too long: what pike.Run finds with it. Plain.
-/
namespace Go.Proofs.Ytnkefclbchpafaa
set_option linter.unusedVariables false
theorem lenT_few {t:Tree} (h:d9 t) (ht:kL t):aL (aH t)+2≤12000:=by
 have h1:=ly_len _ _ _ ((form_ws _ t (Nat.le_refl _) (okS_of _ t 1 (Nat.le_refl _) h.1)).ly _ 1 (progT_has _))
 have h2:=unf_len' _ t (Nat.le_refl _) ht.u ht.v []
 have h3:=ht.len
 simp only[List.length_nil] at h2
 omega
theorem progT_few {t:Tree} (h:d9 t) (ht:kL t):aL (aH t)+3≤20000:=by
 have:=lenT_few h ht
 omega
theorem tree_check {t:Tree} (h:d9 t) (ht:kL t):fu (bZ (aH t)) 0 (2+2*dF t)=true:=progT_check h (progT_few h ht)
end Go.Proofs.Ytnkefclbchpafaa

/-
  The walk of heronref09.Compile, of a tree that may be and is small. Printed by gen_comp9.py.
-/
namespace Go.Proofs.Ytnkefclbchpafaa
set_option maxRecDepth 100000
set_option maxHeartbeats 16000000
open Go.RowKit
set_option linter.unusedVariables false
theorem rightFrom_in64:∀(rs:List (Int × Int)) (p:Option (Int × Int)),rightFrom p rs=true→In64s rs
 | [],_,_=>fun x hx=>by simp at hx
 | y::r,p,h=>by
  rw[rightFrom,Bool.and_eq_true] at h
  obtain⟨h1,h2⟩:=h
  unfold cO at h1
  simp only[Bool.and_eq_true,kU,decide_eq_true_eq] at h1
  intro x hx
  rcases List.mem_cons.1 hx with rfl | hx
  ·exact⟨bI (by omega) (by omega),bI (by omega) (by omega)⟩
  ·exact rightFrom_in64 r _ h2 x hx
def NumI9 (x:av):Prop:=In64I x∧In64s x.rs∧x.rs.length≤140737488355328
theorem edge_in {a:Int} (h:jY a=true):0≤a∧a≤32:=by
 unfold jY at h
 simp only[decide_eq_true_eq] at h
 omega
theorem numI_may {x:av} {n:Nat} {caps:Int} (h:bC x n caps=true) (hn:n≤20000) (hc:caps≤1002):NumI9 x:=by
 unfold bC dh at h
 have nil_:x.rs.length=0→In64s x.rs:=fun e y hy=>by rw[List.eq_nil_of_length_eq_zero e] at hy;simp at hy
 split at h
 ·simp only[Bool.and_eq_true,decide_eq_true_eq] at h
  have hr:=h.2
  unfold bq at hr
  simp only[Bool.and_eq_true,decide_eq_true_eq] at hr
  exact⟨⟨bI (by omega) (by omega),bI (by omega) (by omega),bI (by omega) (by omega),bI (by omega) (by omega)⟩,rightFrom_in64 _ _ hr.2,by omega⟩
 split at h
 ·simp only[Bool.and_eq_true,decide_eq_true_eq] at h
  exact⟨⟨bI (by omega) (by omega),bI (by omega) (by omega),bI (by omega) (by omega),bI (by omega) (by omega)⟩,nil_ h.2,by omega⟩
 split at h
 ·simp only[Bool.and_eq_true,decide_eq_true_eq] at h
  exact⟨⟨bI (by omega) (by omega),bI (by omega) (by omega),bI (by omega) (by omega),bI (by omega) (by omega)⟩,nil_ h.2,by omega⟩
 split at h
 ·simp only[Bool.and_eq_true,decide_eq_true_eq] at h
  have he:=edge_in h.1.2
  exact⟨⟨bI (by omega) (by omega),bI (by omega) (by omega),bI (by omega) (by omega),bI (by omega) (by omega)⟩,nil_ h.2,by omega⟩
 split at h
 ·simp only[Bool.and_eq_true,decide_eq_true_eq] at h
  exact⟨⟨bI (by omega) (by omega),bI (by omega) (by omega),bI (by omega) (by omega),bI (by omega) (by omega)⟩,nil_ h.2,by omega⟩
 split at h
 ·simp only[Bool.and_eq_true,decide_eq_true_eq] at h
  exact⟨⟨bI (by omega) (by omega),bI (by omega) (by omega),bI (by omega) (by omega),bI (by omega) (by omega)⟩,nil_ h.2,by omega⟩
 split at h
 ·simp only[Bool.and_eq_true,decide_eq_true_eq] at h
  exact⟨⟨bI (by omega) (by omega),bI (by omega) (by omega),bI (by omega) (by omega),bI (by omega) (by omega)⟩,nil_ h.2,by omega⟩
 ·cases h
theorem ProgW.insts9 {w:World} {base:Nat} {A:Option Addr} {c:Nat} {is:List av} {gs:List (Option Addr × Nat)} (h:ProgW w base A c is gs) (hn:∀x∈is,NumI9 x):dH w (fun b=>base≤b) A is.length is:=by
 refine⟨rfl,fun i x hx=>?_⟩
 have hi:=(List.getElem?_eq_some_iff.1 hx).1
 obtain⟨B,cc,hg⟩:∃B cc,gs[i]?=some (B,cc):=⟨_,_,List.getElem?_eq_getElem (by rw[h.len];exact hi)⟩
 obtain⟨g,cap,hv,hb,hl⟩:=h.row.form (by omega)
 obtain⟨rfl,-,rfl⟩:A=some ⟨g,0,none⟩∧is.length=is.length∧c=cap:=by injection hv with a b c;exact⟨a,b,c⟩
 obtain⟨ad,e,-,-,hc⟩:=(Reads.eU h.row).2 (by omega)
 injection e with e
 subst e
 have ho:=h.own i x B cc hx hg
 have hN:=hn x (List.mem_of_getElem? hx)
 refine⟨_,g,i*5,B,x.rs.length,cc,rfl,by rw[bX,Nat.zero_add],hb,hl,⟨(Reads.eU ho).weaken (fun b hb2=>own_lo ho hb2),hN.2.1,hN.2.2⟩,hN.1,fun j v hv=>?_⟩
 have:=hc (i*5+j) v (flatI_at9 is gs i x B cc hx hg j v hv)
 rwa [bX,Nat.zero_add] at this
theorem dH.mono_ {w:World} {S S':Nat→Prop} {A:Option Addr} {n:Nat} {is:List av} (h:dH w S A n is) (hS:∀b,S b→S' b):dH w S' A n is :=
 ⟨h.len,fun i x hx=>by
  obtain⟨ad,g,o,B,m,c,k1,k2,k3,k4,k5,k6,k7⟩:=h.at_ i x hx
  exact⟨ad,g,o,B,m,c,k1,k2,hS g k3,k4,k5.weaken_ hS,k6,k7⟩⟩
def CompAns (t:Tree) (w:World) (e:Ending) (w':World):Prop :=
 (e=.returned (.tuple #[.agg #[.slice none 0 0,.int .i64 0,.int .i64 0],.int .i64 3])∧Upd Nob w w') ∨
 ∃A c,e=.returned (.tuple #[.agg #[.slice A (bZ (aH t)).length c,.int .i64 0,.int .i64 (2+2*dF t)],.int .i64 0])∧dH w' (fun b=>w.heap.size≤b) A (bZ (aH t)).length (bZ (aH t))∧Upd Nob w w'
theorem simp_shape {t:Tree} {S:Nat→Prop} {w:World} {e:Ending} {w':World} (h:SimpAns t S w e w'):∃(a0:Int) (B1:Option Addr) (m1 k1:Nat) (a2:Int) (B3:Option Addr) (m3 k3:Nat) (a4 a5:Int) (a6:Bool) (a7:Int) (a8:ByteArray) (er:Int),
  e=.returned (.tuple #[.agg #[.int .i64 a0,.slice B1 m1 k1,.int .i64 a2,.slice B3 m3 k3,.int .i64 a4,.int .i64 a5,.bool a6,.int .i64 a7,.string a8],.int .i64 er])∧Upd Nob w w'∧(er=3∨(er=0∧aB w' (fun b=>S b∨w.heap.size≤b) #[.int .i64 a0,.slice B1 m1 k1,.int .i64 a2,.slice B3 m3 k3,.int .i64 a4,.int .i64 a5,.bool a6,.int .i64 a7,.string a8] (aH t))):=by
 obtain⟨cs,er,rfl,hU,h | ⟨h,hN⟩⟩:=h
 ·obtain⟨rfl,rfl⟩:=h
  exact⟨0,none,0,0,0,none,0,0,0,0,false,0,⟨#[]⟩,3,rfl,hU,.inl rfl⟩
 ·subst h
  obtain⟨RA,rc,SA,sc,rfl,-⟩:=hN.top
  exact⟨_,_,_,_,_,_,_,_,_,_,_,_,_,0,rfl,hU,.inr ⟨rfl,hN⟩⟩
theorem bK {w:World} {g:Nat} {t:TypeId} {v0 v1 v2:Value} (h:Cells w g t #[v0,v1,v2]):w.cell? ⟨g,0,none⟩=some v0∧w.cell? ⟨g,1,none⟩=some v1∧w.cell? ⟨g,2,none⟩=some v2:=⟨h.ak rfl,h.ak rfl,h.ak rfl⟩
theorem prog_put {w:World} {g:Nat} {t:TypeId} {a0 a1 a2:Value} (HC:Cells w g t #[a0,a1,a2]) (v0 v1 v2:Value) :
  Cells (((w.setCell ⟨g,0,none⟩ v0).setCell ⟨g,1,none⟩ v1).setCell ⟨g,2,none⟩ v2) g t #[v0,v1,v2]∧Upd (fun b=>b=g) w (((w.setCell ⟨g,0,none⟩ v0).setCell ⟨g,1,none⟩ v1).setCell ⟨g,2,none⟩ v2) :=
 ⟨((HC.aW 0 _).aW 1 _).aW 2 _,(((Upd.refl (fun b=>b=g) w).setCell _ _ (fun _=>rfl)).setCell _ _ (fun _=>rfl)).setCell _ _ (fun _=>rfl)⟩
theorem compile9_any (t:Tree) (w:World) (S:Nat→Prop) (cs:Array Value) (h1:aB w S cs t) (hs:d9 t) (ht:kL t) (hz:szT t < 1000000) :
  Calls Try.prog 24 #[.agg cs] w (CompAns t w):=by
 obtain⟨RA,rc,SA,sc,rfl,-⟩:=h1.top
 generalize hP:CompAns t w=P
 have HP0:=ah (show ∀w',Upd Nob w w'→P (.returned (.tuple #[.agg #[.slice none 0 0,.int .i64 0,.int .i64 0],.int .i64 3])) w' from fun w' a=>by rw[←hP];exact .inl ⟨rfl,a⟩)
 have HP:=ah (show ∀A c w',dH w' (fun b=>w.heap.size≤b) A (bZ (aH t)).length (bZ (aH t))→Upd Nob w w'→P (.returned (.tuple #[.agg #[.slice A (bZ (aH t)).length c,.int .i64 0,.int .i64 (2+2*dF t)],.int .i64 0])) w' from fun A c w' a b=>by rw[←hP];exact .inr ⟨A,c,rfl,a,b⟩)
 clear hP
 have C0:=Cells.new w 47 (au t RA rc SA sc)
 have hU:=(Upd.refl Nob w).alloc (.cells (au t RA rc SA sc) 47)
 have sX:(w.alloc (.cells (au t RA rc SA sc) 47)).heap.size=w.heap.size+1:=by simp
 have hL:=h1.both
 have HSF:=ah hs
 have HTO:=ah ht
 have HSZT:=ah hz
 clear hs hz h1 ht
 unfold au at C0 hU hL sX
 unfold au
 go_enter Try.func24,Try.ntmps24
 go_upto_region 1 with fail
 generalize w.alloc (.cells #[.int .i64 t.kind,.slice RA t.rs.length rc,.int .i64 t.am,.slice SA t.subs.length sc,.int .i64 t.mn,.int .i64 t.mx,.bool t.lz,.int .i64 t.ix,.string t.nm] 47)=w1 at *
 have CO:=Cells.new w1 27 #[.slice none 0 0,.int .i64 0,.int .i64 0]
 have hU2:=hU.alloc (.cells #[.slice none 0 0,.int .i64 0,.int .i64 0] 27)
 have CT:=C0.alloc (.cells #[.slice none 0 0,.int .i64 0,.int .i64 0] 27)
 have s2:(w1.alloc (.cells #[.slice none 0 0,.int .i64 0,.int .i64 0] 27)).heap.size=w.heap.size+2:=by simp[sX]
 rw[sX] at CO
 generalize w1.alloc (.cells #[.slice none 0 0,.int .i64 0,.int .i64 0] 27)=w2 at *
 have H1:=ah (hL.bA hU2 (fun _ _=>aj))
 have HU:=ah hU2
 have HT:=ah CT
 have HO:=ah CO
 have HZ:=ah s2
 obtain⟨ob,hob⟩:∃ob,w.heap.size+1=ob:=⟨_,rfl⟩
 have HOB:=ah hob
 simp only[hob] at CO ⊢
 rw[hob] at HO
 clear hob
 obtain⟨e0,e1,e2,e3,e4,e5,e6,e7,e8⟩:=aI CT
 clear CT C0 CO hL hU hU2 sX s2
 go_upto_region 2 with(go_at_call 22;refine(iI t w2 _ _ H1.out).mono ?_;rintro e w3 ⟨r,rfl,-,hr,hU3⟩;rw[hr HSF.out,if_pos rfl];have HU3:=ah hU3;clear hU3 hr)
 have H1:=ah (H1.out.bA HU3.out (fun _ _=>aj))
 have HT:=ah (HT.out.upd HU3.out aj)
 have HO:=ah (HO.out.upd HU3.out aj)
 have HW3:=ah HU3.out.size
 have HU:=ah (HU.out.trans HU3.out (fun _ _ h=>h))
 clear HU3 e0 e1 e2 e3 e4 e5 e6 e7 e8
 obtain⟨e0,e1,e2,e3,e4,e5,e6,e7,e8⟩:=aI HT.out
 go_upto_region 5 with(go_at_call 39;refine(simp7_any t w3 _ _ H1.out HSF.out HSZT.out).mono ?_;rintro e w4 hs4;obtain⟨a0,B1,m1,k1,a2,B3,m3,k3,a4,a5,a6,a7,a8,er,rfl,hU4,hc4⟩:=simp_shape hs4;have HU4:=ah hU4;have HC4:=ah hc4;clear hU4 hc4 hs4)
 have hUA:=HU4.out.alloc (.cells #[.int .i64 a0,.slice B1 m1 k1,.int .i64 a2,.slice B3 m3 k3,.int .i64 a4,.int .i64 a5,.bool a6,.int .i64 a7,.string a8] 47)
 have HSB:=ah (Cells.new w4 47 #[.int .i64 a0,.slice B1 m1 k1,.int .i64 a2,.slice B3 m3 k3,.int .i64 a4,.int .i64 a5,.bool a6,.int .i64 a7,.string a8])
 have H1:=ah (H1.out.bA hUA (fun _ _=>aj))
 have HT:=ah (HT.out.upd hUA aj)
 have HO:=ah (HO.out.upd hUA aj)
 have HU:=ah (HU.out.trans hUA (fun _ _ h=>h))
 have HW4:=ah HU4.out.size
 have HUW:=ah ((Upd.refl Nob w4).alloc (.cells #[.int .i64 a0,.slice B1 m1 k1,.int .i64 a2,.slice B3 m3 k3,.int .i64 a4,.int .i64 a5,.bool a6,.int .i64 a7,.string a8] 47))
 have hsz5:(w4.alloc (.cells #[.int .i64 a0,.slice B1 m1 k1,.int .i64 a2,.slice B3 m3 k3,.int .i64 a4,.int .i64 a5,.bool a6,.int .i64 a7,.string a8] 47)).heap.size=w4.heap.size+1:=by simp
 have HZ5:=ah hsz5
 clear HU4 hUA hsz5 e0 e1 e2 e3 e4 e5 e6 e7 e8
 generalize w4.alloc (.cells #[.int .i64 a0,.slice B1 m1 k1,.int .i64 a2,.slice B3 m3 k3,.int .i64 a4,.int .i64 a5,.bool a6,.int .i64 a7,.string a8] 47)=w5 at *
 by_cases her:er=3
 ·subst her
  obtain⟨d0,d1,d2⟩:=bK HO.out
  have z0:=HO.out.frozen 0
  have z1:=HO.out.frozen 1
  have z2:=HO.out.frozen 2
  go_wp2_with fail
  obtain⟨C9,U9⟩:=prog_put HO.out (.slice none 0 0) (.int .i64 0) (.int .i64 0)
  obtain⟨q0,q1,q2⟩:=bK C9
  refine bodyPost_ret (by simp[results,Try.results24,go_sem,q0,q1,q2];try rfl) rfl ?_
  exact HP0.out _ (HU.out.trans U9 (fun b hb e=>by have:=HOB.out;omega))
 obtain⟨rfl,hNS⟩:=HC4.out.resolve_left her
 have HNS:=ah (hNS.both.bA HUW.out (fun _ _=>aj))
 clear HC4 hNS her HUW
 obtain⟨s,hsf⟩:∃s,aH t=s:=⟨_,rfl⟩
 rw[hsf] at HP HNS
 have HF:=ah hsf
 have HFEW:=ah (show aL s+3≤20000 by rw[←hsf];exact progT_few HSF.out HTO.out)
 have HCK:=ah (show fu (bZ s) 0 (2+2*dF t)=true by rw[←hsf];exact tree_check HSF.out HTO.out)
 have HOY:=ah (show OkY s by rw[←hsf];exact okY_form _ t 1 (Nat.le_refl _) HSF.out.1)
 have HON:=ah (show OkN 500 s by rw[←hsf];exact okN_form _ t (Nat.le_refl _) (okN_of _ t 1 (Nat.le_refl _) HSF.out.1 500 (by have:=HTO.out.g1;omega)))
 clear hsf
 go_upto_region 8 with fail
 have hUR:=(Upd.refl Nob w5).alloc (.cells #[.slice none 0 0] 90)
 have CRB:=Cells.new w5 90 #[.slice none 0 0]
 have hsz6:(w5.alloc (.cells #[.slice none 0 0] 90)).heap.size=w5.heap.size+1:=by simp
 have HR:=ah (show fC (w5.alloc (.cells #[.slice none 0 0] 90)) (w5.heap.size+1) w5.heap.size none 0 [] [] from⟨CRB,⟨rfl,World.ownsRow_nil _ _ _ _,fun i x B cc hx=>by simp at hx,fun i j B B' cc cc' b hg=>by simp at hg⟩,by omega,by omega,by simp⟩)
 have HNS:=ah (HNS.out.bA hUR (fun _ _=>aj))
 have HT:=ah (HT.out.upd hUR aj)
 have HO:=ah (HO.out.upd hUR aj)
 have HSB:=ah (HSB.out.upd hUR aj)
 have H1:=ah (H1.out.bA hUR (fun _ _=>aj))
 have HU:=ah (HU.out.trans hUR (fun _ _ h=>h))
 clear hUR CRB hsz6
 generalize w5.alloc (.cells #[.slice none 0 0] 90)=w6 at *
 generalize w5.heap.size=rb at *
 have HL:=ah (eZ.refl HR.out)
 have HSR:=ah (show ∀b,((fun b=>(S b∧b < w.heap.size)∨w3.heap.size≤b) b∧b < w4.heap.size)→b < rb+1∧b≠rb from fun b h=>by have:=h.2;have:=HZ5.out;omega)
 have HBT:=ah (show w.heap.size≠rb∧ob≠rb∧w4.heap.size≠rb∧w.heap.size≤rb by have:=HZ5.out;have:=HOB.out;have:=HZ.out;have:=HW3.out;have:=HW4.out;omega)
 go_upto_region 9 with(go_at_call 40;refine(fG HL.out.r (by simp) 3 0).mono ?_;rintro e w7 ⟨rfl,A7,c7,gs7,hN⟩;have HT:=ah (hN.keep HL.out.r HT.out (by decide) HBT.out.1);have HO:=ah (hN.keep HL.out.r HO.out (by decide) HBT.out.2.1);have HSB:=ah (hN.keep HL.out.r HSB.out (by decide) HBT.out.2.2.1);have HNS:=ah (hN.node HL.out.r HNS.out HSR.out);have HL:=ah (HL.out.trans hN);clear hN)
 obtain⟨s0,s1,s2,s3,s4,s5,s6,s7,s8⟩:=aI HSB.out
 go_upto_region 10 with(go_at_call 41;refine(lay9_go _ s (Nat.le_refl _) HOY.out HON.out _ (rb+1) rb _ _ _ _ _ _ HL.out.r HNS.out HSR.out (by have:=HFEW.out;simp;omega)).mono ?_;rintro e w8 ⟨⟨v,rfl⟩,A8,c8,gs8,hN⟩;have HT:=ah (hN.keep HL.out.r HT.out (by decide) HBT.out.1);have HO:=ah (hN.keep HL.out.r HO.out (by decide) HBT.out.2.1);have HL:=ah (HL.out.trans hN);clear hN)
 obtain⟨is2,hi2⟩:∃m,[]++[aT 3 0 ((([]:List av).length:Int)+1) 0 []]++bG s ([]++[aT 3 0 ((([]:List av).length:Int)+1) 0 []]).length=m:=⟨_,rfl⟩
 rw[hi2] at HL
 have HI2:=ah (show is2=aT 3 0 1 0 []::bG s 1 by rw[←hi2];rfl)
 have HN2:=ah (show is2.length=aL s+1 by rw[HI2.out,List.length_cons,bY])
 clear hi2 s0 s1 s2 s3 s4 s5 s6 s7 s8
 have hb2:(is2.length:Int)≤20000:=by have:=HN2.out;have:=HFEW.out;omega
 go_upto_region 11 with(go_at_call 40;refine(fG HL.out.r (by have:=HN2.out;have:=HFEW.out;omega) 3 1).mono ?_;rintro e w9 ⟨rfl,A9,c9,gs9,hN⟩;have HT:=ah (hN.keep HL.out.r HT.out (by decide) HBT.out.1);have HO:=ah (hN.keep HL.out.r HO.out (by decide) HBT.out.2.1);have HL:=ah (HL.out.trans hN);clear hN)
 obtain⟨is3,hi3⟩:∃m,is2++[aT 3 1 ((is2.length:Int)+1) 0 []]=m:=⟨_,rfl⟩
 rw[hi3] at HL
 have HI3:=ah hi3
 have HN3:=ah (show is3.length=aL s+2 by rw[←hi3,List.length_append,HN2.out];rfl)
 clear hi3
 have hb3:(is3.length:Int)≤20000:=by have:=HN3.out;have:=HFEW.out;omega
 go_upto_region 12 with(go_at_call 40;refine(fG HL.out.r (by have:=HN3.out;have:=HFEW.out;omega) 5 0).mono ?_;rintro e wa ⟨rfl,Aa,ca,gsa,hN⟩;have HT:=ah (hN.keep HL.out.r HT.out (by decide) HBT.out.1);have HO:=ah (hN.keep HL.out.r HO.out (by decide) HBT.out.2.1);have HL:=ah (HL.out.trans hN);clear hN)
 obtain⟨g,rfl,-,-⟩:=HL.out.r.some_ (by simp)
 have HXZ:=ah (je is3 [] (aT 5 0 ((is3.length:Int)+1) 0 []))
 obtain⟨is4,hi4⟩:∃m,is3++[aT 5 0 ((is3.length:Int)+1) 0 []]=m:=⟨_,rfl⟩
 rw[hi4] at HL HXZ
 have HI4:=ah hi4
 have hnl:is3.length < is4.length:=(List.getElem?_eq_some_iff.1 HXZ.out).1
 have hnl2:(is3.length:Int) < (is4.length:Int):=by omega
 have rbx:wa.cell? ⟨rb,0,none⟩=some (.slice (some ⟨g,0,none⟩) is4.length ca):=HL.out.r.box.ak rfl
 obtain⟨f0,f1,f2,f3,-⟩:=HL.out.r.cells HXZ.out
 have t1:=HL.out.r.thaw (is3.length*5+1)
 clear hi4
 go_upto_region 13 with fail
 have hX:=HL.out.setX HXZ.out 0
 have hne:∀(b:Nat) (T:TypeId) (cc:Array Value), 64≠T→Cells wa b T cc→b≠g:=fun b T cc hT hc e=>HL.out.r.jE hc hT (by rw[e];rfl)
 have HT:=ah (HT.out.far ⟨g,is3.length*5+1,none⟩ (.int .i64 0) (hne _ _ _ (by decide) HT.out))
 have HO:=ah (HO.out.far ⟨g,is3.length*5+1,none⟩ (.int .i64 0) (hne _ _ _ (by decide) HO.out))
 have hfin:is4.set is3.length { aT 5 0 ((is3.length:Int)+1) 0 [] with x:=0 }=bZ s:=by
  rw[←HI4.out,fF,←HI3.out,HN2.out,HI2.out,bZ]
  simp only[List.append_assoc,List.cons_append,List.nil_append,Int.natCast_add]
  rfl
 rw[hfin] at hX
 have HL:=ah hX
 clear hX hfin hne rbx f0 f1 f2 f3 t1 hnl hnl2 HXZ
 generalize wa.setCell ⟨g,is3.length*5+1,none⟩ (.int .i64 0)=wb at *
 obtain⟨is5,hi5⟩:∃m,bZ s=m:=⟨_,rfl⟩
 have hl5:is5.length=aL s+3:=by rw[←hi5];exact progT_len s
 rw[hi5] at HL HP HCK
 have HI5:=ah hi5
 have HN5:=ah hl5
 clear hi5 hl5
 have HFU:=ah (full9_any wb rb is5.length ca _ HL.out.r.box (by have:=HN5.out;have:=HFEW.out;omega))
 rw[show decide (20000 < is5.length)=false by have:=HN5.out;have:=HFEW.out;simp;omega] at HFU
 go_upto_region 16 with(go_at_call 42;refine HFU.out.mono ?_;rintro e wc ⟨rfl,hwc⟩;subst hwc)
 obtain⟨G,hG⟩:∃G,dF t=G:=⟨_,rfl⟩
 have hG0:0≤G:=by rw[←hG];exact HTO.out.g0
 have hG1:G≤500:=by rw[←hG];exact HTO.out.g1
 rw[hG] at HP HCK
 have HGG:=ah hG
 have HG01:=ah (And.intro hG0 hG1)
 have hw1:IntKind.i64.wrap (2*G)=2*G:=by rw[IntKind.wrap_i64];omega
 have hw2:IntKind.i64.wrap (2+2*G)=2+2*G:=by rw[IntKind.wrap_i64];omega
 clear hG hG0 hG1
 have HSL:=ah (show ∀w',Upd (fun b=>b=ob) wb w'→(fun w':World=>w'.cell? ⟨rb,0,none⟩=some (.slice (some ⟨g,0,none⟩) is5.length ca)∧w'.cell? ⟨w.heap.size,0,none⟩=some (.int .i64 t.kind)∧w'.cell? ⟨w.heap.size,1,none⟩=some (.slice RA t.rs.length rc)∧w'.cell? ⟨w.heap.size,2,none⟩=some (.int .i64 t.am)∧w'.cell? ⟨w.heap.size,3,none⟩=some (.slice SA t.subs.length sc)∧w'.cell? ⟨w.heap.size,4,none⟩=some (.int .i64 t.mn)∧w'.cell? ⟨w.heap.size,5,none⟩=some (.int .i64 t.mx)∧w'.cell? ⟨w.heap.size,6,none⟩=some (.bool t.lz)∧w'.cell? ⟨w.heap.size,7,none⟩=some (.int .i64 t.ix)∧w'.cell? ⟨w.heap.size,8,none⟩=some (.string t.nm)) w' from fun w' hU=>⟨(HL.out.r.box.upd hU (fun e=>HBT.out.2.1 e.symm)).ak rfl,(HT.out.upd hU (by have:=HOB.out;omega)).ak rfl,(HT.out.upd hU (by have:=HOB.out;omega)).ak rfl,(HT.out.upd hU (by have:=HOB.out;omega)).ak rfl,(HT.out.upd hU (by have:=HOB.out;omega)).ak rfl,(HT.out.upd hU (by have:=HOB.out;omega)).ak rfl,(HT.out.upd hU (by have:=HOB.out;omega)).ak rfl,(HT.out.upd hU (by have:=HOB.out;omega)).ak rfl,(HT.out.upd hU (by have:=HOB.out;omega)).ak rfl,(HT.out.upd hU (by have:=HOB.out;omega)).ak rfl⟩)
 have HU0:=ah (Upd.refl (fun b=>b=ob) wb)
 have HUD:=ah ((Upd.refl (fun b=>b=ob) wb).drew)
 obtain⟨l0,l1,l2,l3,l4,l5,l6,l7,l8,l9⟩:=HSL.out wb HU0.out
 have H1w:=ah (show aB wb (fun k=>S k∧k < w.heap.size) #[.int .i64 t.kind,.slice RA t.rs.length rc,.int .i64 t.am,.slice SA t.subs.length sc,.int .i64 t.mn,.int .i64 t.mx,.bool t.lz,.int .i64 t.ix,.string t.nm] t from H1.out.bA HL.out.u (fun b hb e=>e.elim (fun e=>by have:=hb.2;have:=HBT.out;omega) (fun e=>by cases e)))
 have hobl:ob < wb.heap.size:=HO.out.lt
 have HOBL:=ah hobl
 obtain⟨d0,d1,d2⟩:=bK HO.out
 go_region_held3 (fun w':World=>w'.cell? ⟨rb,0,none⟩=some (.slice (some ⟨g,0,none⟩) is5.length ca)∧w'.cell? ⟨w.heap.size,0,none⟩=some (.int .i64 t.kind)∧w'.cell? ⟨w.heap.size,1,none⟩=some (.slice RA t.rs.length rc)∧w'.cell? ⟨w.heap.size,2,none⟩=some (.int .i64 t.am)∧w'.cell? ⟨w.heap.size,3,none⟩=some (.slice SA t.subs.length sc)∧w'.cell? ⟨w.heap.size,4,none⟩=some (.int .i64 t.mn)∧w'.cell? ⟨w.heap.size,5,none⟩=some (.int .i64 t.mx)∧w'.cell? ⟨w.heap.size,6,none⟩=some (.bool t.lz)∧w'.cell? ⟨w.heap.size,7,none⟩=some (.int .i64 t.ix)∧w'.cell? ⟨w.heap.size,8,none⟩=some (.string t.nm))
  (first | (with_reducible exact HSL.out _ HU0.out) | (with_reducible exact HSL.out _ HUD.out) | (with_reducible exact HSL.out _ HUN.out) | (with_reducible exact HSL.out _ HUF.out))
  (first
  | (go_at_call 43;refine(greatest9_go _ t _ _ _ (Nat.le_refl _) (H1w.out.bA ((Upd.refl Nob wb).drew) (fun _ _=>aj))).mono ?_;rintro e we ⟨rfl,-,hUe⟩;rw[HGG.out];have hU2:=((Upd.refl Nob wb).drew).trans hUe (fun _ _ h=>h);have HL2:=ah (HL.out.nob hU2);have HO2:=ah (HO.out.upd hU2 aj);have HUN:=ah (hU2.mono (G:=fun b=>b=ob) (fun _ _ h=>absurd h aj));have HUF:=ah (((HUN.out.setCell ⟨ob,0,none⟩ (.slice (some ⟨g,0,none⟩) is5.length ca) (fun _=>rfl)).setCell ⟨ob,1,none⟩ (.int .i64 0) (fun _=>rfl)).setCell ⟨ob,2,none⟩ (.int .i64 (2+2*G)) (fun _=>rfl));obtain⟨d0,d1,d2⟩:=bK HO2.out;have z0:=HO2.out.frozen 0;have z1:=HO2.out.frozen 1;have z2:=HO2.out.frozen 2;clear hUe hU2))
 go_wp2_with fail
 obtain⟨C9,U9⟩:=prog_put HO2.out (.slice (some ⟨g,0,none⟩) is5.length ca) (.int .i64 0) (.int .i64 (2+2*G))
 obtain⟨q0,q1,q2⟩:=bK C9
 refine bodyPost_ret (by simp[results,Try.results24,go_sem,q0,q1,q2];try rfl) rfl ?_
 have hck:=HCK.out
 unfold fu at hck
 simp only[Bool.and_eq_true,decide_eq_true_eq,List.all_eq_true] at hck
 have hu:Upd Nob w _:=(HU.out.trans HL2.out.u (fun b hb e=>e.elim (fun e=>by have:=HBT.out;omega) (fun e=>by cases e))).trans U9 (fun b hb e=>by have:=HOB.out;omega)
 refine HP.out _ _ _ ?_ hu
 have hi:=HL2.out.r.prog.insts9 (fun x hx=>numI_may (hck.2 x hx) (by omega) (by have:=HG01.out;omega))
 refine(hi.upd U9 (fun b hb e=>by have hb:rb+1≤b:=hb;have:=HOB.out;have:=HBT.out;have:=HZ.out;have:=HW3.out;have:=HW4.out;have:=HZ5.out;omega)).mono_ (fun b hb=>by have hb:rb+1≤b:=hb;have:=HBT.out;omega)
end Go.Proofs.Ytnkefclbchpafaa

/-
  The walk of heronlaw05.Deep. Derived from s08.
-/
namespace Go.Proofs.Ytnkefclbchpafaa
set_option maxRecDepth 100000
set_option maxHeartbeats 16000000
open Go.RowKit
set_option linter.unusedVariables false
def GreatAns (l:Int) (w:World) (e:Ending) (w':World):Prop:=∃v:Int,e=.returned (.int .i64 v)∧-1≤v∧v≤l∧Upd Nob w w'
theorem great_go (n:Nat):∀(t:Tree) (w:World) (S:Nat→Prop) (cs:Array Value) (l:Int),SizeOf.sizeOf t≤n→aB w S cs t→0≤l→l≤4194304 →
  Calls Try.prog 35 #[.agg cs,.int .i64 l] w (GreatAns l w):=by
 induction n with
 | zero=>exact fun t _ _ _ _ h=>absurd h (dw t)
 | succ n ih =>
 intro t w S cs l hn h1 hl0 hl1
 obtain⟨RA,rc,SA,sc,rfl,hr1,ho,hs1⟩:=h1.top
 have C0:=Cells.new w 47 (au t RA rc SA sc)
 have hU:=(Upd.refl Nob w).alloc (.cells (au t RA rc SA sc) 47)
 have IH:=ah ih
 have HN:=ah hn
 have H1:=ah (h1.bA hU (fun _ _=>aj))
 have hnl:=ho.n
 clear ih hn h1 hr1 hs1 ho
 unfold au at C0 hU H1
 unfold au
 generalize hP:GreatAns l w=P
 have HP:=ah (show ∀(v:Int) w',-1≤v→v≤l→Upd Nob w w'→P (.returned (.int .i64 v)) w' from fun v w' a b c=>by rw[←hP];exact⟨v,rfl,a,b,c⟩)
 clear hP
 go_enter Try.func35,Try.ntmps35
 go_upto_region 1 with fail
 generalize w.alloc (.cells #[.int .i64 t.kind,.slice RA t.rs.length rc,.int .i64 t.am,.slice SA t.subs.length sc,.int .i64 t.mn,.int .i64 t.mx,.bool t.lz,.int .i64 t.ix,.string t.nm] 47)=w3 at *
 have HU3:=ah hU
 have HC3:=ah C0
 have HN3:=ah H1.out.open_.2.2
 clear C0 hU
 obtain⟨m,hm⟩:∃m:Int,l - 1=m:=⟨_,rfl⟩
 have m0:-1≤m:=by omega
 have m1:m≤4194304:=by omega
 have HM:=ah hm
 go_wp2_with fail
 clear hm
 go_loopg [1,5] t.subs.length (fun gk v1 v5 wr=>∃(k:Nat) (v:Int),k+gk=t.subs.length∧v5=.int .i64 (k:Int)∧v1=.int .i64 v∧-1≤v∧v≤m∧Upd Nob w3 wr)
 case atStart=>exact⟨0,m,by omega,rfl,rfl,m0,Int.le_refl _,Upd.refl _ _⟩
 case round =>
  obtain⟨k,v,hk,rfl,rfl,v0,v1,hUr⟩:=hrel
  have b3:wr.cell? ⟨w.heap.size,0+3,none⟩=some (.slice SA t.subs.length sc):=(HC3.out.upd hUr aj).ak rfl
  by_cases hlt:k < t.subs.length
  ·have g2:(k:Int) < (t.subs.length:Int):=by omega
   by_cases g3:0≤v
   ·obtain⟨ad,g,o,x,PA,pc,QA,qc,rfl,hadd,hSg,hgl,hx,hX,hlx,hcs⟩:=aB.sub HN3.out hlt
    have up:∀(a:Addr) v,a.block < w3.heap.size→w3.cell? a=some v→wr.cell? a=some v:=fun a v hb ha=>(hUr.cell hb aj).trans ha
    obtain⟨p0,p1,p2,p3,p4,p5,p6,p7,p8⟩:=bH (fun j v hv=>up ⟨g,o+j,none⟩ v hgl (hcs j v hv))
    have hxn:SizeOf.sizeOf x≤n:=by have:=HN.out;omega
    have HX:=ah (hX.bA hUr (fun _ _=>aj))
    have HUr:=ah hUr
    have HK:=ah hk
    clear up hcs hX hx hlx hUr hk
    go_wp2_with fail
    refine(IH.out x wr _ _ v hxn HX.out g3 (by omega)).mono ?_
    rintro e w5 ⟨v',rfl,v2,v3,hU5⟩
    have HU5:=ah (HUr.out.trans hU5 (fun _ _ h=>h))
    clear hU5 b3 p0 p1 p2 p3 p4 p5 p6 p7 p8
    go_wp2_with fail
    have hk:=HK.out
    go_roundg (t.subs.length - (k+1))
    case measure=>omega
    case rel=>exact⟨k+1,v',by omega,by go_num,rfl,v2,by omega,HU5.out⟩
   ·have HUr:=ah hUr
    clear hUr
    go_wp2_with fail
    try go_ret
    exact HP.out _ _ v0 (by have:=HM.out;omega) (HU3.out.trans HUr.out (fun _ _ h=>h))
  ·have g2:¬(k:Int) < (t.subs.length:Int):=by omega
   have HUr:=ah hUr
   clear hUr
   go_wp2_with fail
   try go_ret
   exact HP.out _ _ v0 (by have:=HM.out;omega) (HU3.out.trans HUr.out (fun _ _ h=>h))
def DeepAns (w:World) (e:Ending) (w':World):Prop:=∃b,e=.returned (.bool b)∧Upd Nob w w'
theorem deep_any (t:Tree) (w:World) (S:Nat→Prop) (cs:Array Value) (h1:aB w S cs t) :
  Calls Try.prog 19 #[.agg cs] w (DeepAns w):=by
 obtain⟨RA,rc,SA,sc,rfl,-⟩:=h1.top
 have HN:=ah h1
 clear h1
 unfold au at HN ⊢
 generalize hP:DeepAns w=P
 have HP:=ah (show ∀b w',Upd Nob w w'→P (.returned (.bool b)) w' from fun b w' a=>by rw[←hP];exact⟨b,rfl,a⟩)
 clear hP
 have C0:=Cells.new w 47 #[.int .i64 t.kind,.slice RA t.rs.length rc,.int .i64 t.am,.slice SA t.subs.length sc,.int .i64 t.mn,.int .i64 t.mx,.bool t.lz,.int .i64 t.ix,.string t.nm]
 have hU2:=(Upd.refl Nob w).alloc (.cells #[.int .i64 t.kind,.slice RA t.rs.length rc,.int .i64 t.am,.slice SA t.subs.length sc,.int .i64 t.mn,.int .i64 t.mx,.bool t.lz,.int .i64 t.ix,.string t.nm] 47)
 go_enter Try.func19,Try.ntmps19
 go_upto_region 1 with fail
 generalize w.alloc (.cells #[.int .i64 t.kind,.slice RA t.rs.length rc,.int .i64 t.am,.slice SA t.subs.length sc,.int .i64 t.mn,.int .i64 t.mx,.bool t.lz,.int .i64 t.ix,.string t.nm] 47)=w2 at *
 obtain⟨e0,e1,e2,e3,e4,e5,e6,e7,e8⟩:=nine C0
 clear C0
 go_wp2_with fail
 refine(great_go _ t w2 S _ 4194304 (Nat.le_refl _) (HN.out.bA hU2 (fun _ _=>aj)) (by omega) (by omega)).mono ?_
 rintro e w3 ⟨v,rfl,-,-,hU3⟩
 have HU3:=ah (hU2.trans hU3 (fun _ _ h=>h))
 clear hU3 hU2 e0 e1 e2 e3 e4 e5 e6 e7 e8
 go_wp2_with fail
 try go_ret
 exact HP.out _ _ HU3.out
end Go.Proofs.Ytnkefclbchpafaa
