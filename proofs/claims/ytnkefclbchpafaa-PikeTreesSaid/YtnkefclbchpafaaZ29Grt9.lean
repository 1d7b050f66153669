/-
  Form7, Simp7, Grt9, put together.
-/
import Derived.Test.YtnkefclbchpafaaZ28Unfd7
import Derived.Test.YtnkefclbchpafaaZ16Loop7
import Derived.Deep.QuietTactic

/-
  The walk of jV.form: a tree's simple form. Printed by gen_form7.py.
-/
namespace Go.Proofs.Ytnkefclbchpafaa
set_option maxRecDepth 100000
set_option maxHeartbeats 16000000
open Go.RowKit
set_option linter.unusedVariables false
theorem formTL_more {l:List Tree} {k:Nat} {x:Tree} (h:l[k]?=some x):aU (l.take (k+1))=aU (l.take k)++[aH x]:=by
 have app:∀(a:List Tree) (y:Tree),aU (a++[y])=aU a++[aH y]:=fun a y=>by
  induction a with
  | nil=>rw[List.nil_append,aU,aU,aU];rfl
  | cons z a ih=>rw[List.cons_append,aU,aU,ih];rfl
 obtain⟨hk,rfl⟩:=List.getElem?_eq_some_iff.1 h
 rw[List.take_succ_eq_append_getElem hk,app]
theorem flatA_app:∀a b,cK (a++b)=cK a++cK b
 | [],b=>rfl
 | t::a,b=>by rw[List.cons_append,cK,cK,flatA_app a b,List.append_assoc]
theorem wdL_app:∀a b,wdL (a++b)=wdL a+wdL b
 | [],b=>by rw[List.nil_append,wdL];omega
 | t::a,b=>by rw[List.cons_append,wdL,wdL,wdL_app a b];omega
theorem wdL_take (l:List Tree) (k:Nat):wdL (aU (l.take k))≤wdL (aU l):=by
 have app:∀(a b:List Tree),aU (a++b)=aU a++aU b:=fun a b=>by
  induction a with
  | nil=>rw[List.nil_append,aU];rfl
  | cons z a ih=>rw[List.cons_append,aU,aU,ih];rfl
 have h:=app (l.take k) (l.drop k)
 rw[List.take_append_drop] at h
 rw[h,wdL_app]
 omega
theorem form_go (n:Nat):∀(t:Tree) (d:Int) (w:World) (S:Nat→Prop) (cs:Array Value),SizeOf.sizeOf t≤n→OkF t d→szT t < 1000000→aB w S cs t →
  Calls Try.prog 60 #[.agg cs] w (jC (aH t) S w):=by
 induction n with
 | zero=>exact fun t _ _ _ _ h=>absurd h (dw t)
 | succ n ih =>
 intro t d w S cs hn hok hz h1
 obtain⟨f1,f2,f3⟩:=hok.top
 have q:=nodeK f1
 have hwide:=(form_wide _ t d (Nat.le_refl _) hok hz).1
 obtain⟨RA,rc,SA,sc,rfl,hr1,ho,hs1⟩:=h1.top
 generalize hP:jC (aH t) S w=P
 have HP:=ah (show ∀cs w',aB w' (fun b=>S b∨w.heap.size≤b) cs (aH t)→Upd Nob w w'→P (.returned (.agg cs)) w' from fun cs w' a b=>by rw[←hP];exact⟨cs,rfl,a,b⟩)
 clear hP
 have C0:=Cells.new w 47 (au t RA rc SA sc)
 have hU:=(Upd.refl Nob w).alloc (.cells (au t RA rc SA sc) 47)
 have sX:(w.alloc (.cells (au t RA rc SA sc) 47)).heap.size=w.heap.size+1:=by simp
 have hL:=h1.both
 have HQ:=ah q
 have HWD:=ah hwide
 have HSZT:=ah hz
 have H3:=ah f3
 have IH:=ah ih
 have HN:=ah hn
 have hnl:(t.subs.length:Int)≤140737488355328:=by have:=ho.n;omega
 have HTO:=ah ho
 have HRR:=ah hr1
 clear q hwide hz hok f1 f2 f3 ih hn h1 hr1 hs1 ho
 unfold au at C0 hU hL sX
 unfold au
 go_enter Try.func60,Try.ntmps60
 go_upto_region 1 with fail
 generalize w.alloc (.cells #[.int .i64 t.kind,.slice RA t.rs.length rc,.int .i64 t.am,.slice SA t.subs.length sc,.int .i64 t.mn,.int .i64 t.mx,.bool t.lz,.int .i64 t.ix,.string t.nm] 47)=w1 at *
 have CO:=Cells.new w1 47 #[.int .i64 0,.slice none 0 0,.int .i64 0,.slice none 0 0,.int .i64 0,.int .i64 0,.bool false,.int .i64 0,.string ⟨#[]⟩]
 have hU2:=hU.alloc (.cells #[.int .i64 0,.slice none 0 0,.int .i64 0,.slice none 0 0,.int .i64 0,.int .i64 0,.bool false,.int .i64 0,.string ⟨#[]⟩] 47)
 have CT:=C0.alloc (.cells #[.int .i64 0,.slice none 0 0,.int .i64 0,.slice none 0 0,.int .i64 0,.int .i64 0,.bool false,.int .i64 0,.string ⟨#[]⟩] 47)
 have s2:(w1.alloc (.cells #[.int .i64 0,.slice none 0 0,.int .i64 0,.slice none 0 0,.int .i64 0,.int .i64 0,.bool false,.int .i64 0,.string ⟨#[]⟩] 47)).heap.size=w.heap.size+2:=by simp[sX]
 rw[sX] at CO
 generalize w1.alloc (.cells #[.int .i64 0,.slice none 0 0,.int .i64 0,.slice none 0 0,.int .i64 0,.int .i64 0,.bool false,.int .i64 0,.string ⟨#[]⟩] 47)=w2 at *
 have H1:=ah (hL.bA hU2 (fun _ _=>aj))
 have HU:=ah hU2
 have HT:=ah CT
 have HO:=ah CO
 have HZ:=ah s2
 obtain⟨ob,hob⟩:∃ob,w.heap.size+1=ob:=⟨_,rfl⟩
 have HOB:=ah hob
 simp only[hob] at CO ⊢
 rw[hob] at HO
 clear hob
 obtain⟨e0,e1,e2,e3,e4,e5,e6,e7,e8⟩:=aI CT
 clear CT C0 hL hU hU2 sX s2
 by_cases k7:t.kind=7
 ·have c7:(t.kind==7)=true:=by simp[k7]
  have hl:=HQ.out.one (.inr k7)
  have g0:0 < t.subs.length:=by omega
  obtain⟨g,o,x,PA,pc,QA,qc,rfl,hSg,hgl,hx,hX,hlx,hcs⟩:=aB.sub0 H1.out.open_.2.2 g0
  obtain⟨p0,p1,p2,p3,p4,p5,p6,p7,p8⟩:=bH hcs
  have HXX:=ah hX
  have HXN:=ah (show SizeOf.sizeOf x≤n by have:=HN.out;omega)
  have HXK:=ah (H3.out 0 x hx)
  have HXZ:=ah (show szT x < 1000000 by have:=HWD.out.sub (fun h=>by omega) x (List.mem_of_getElem? hx);have:=HSZT.out;omega)
  have HFT:=ah (show ∃u,aH x=u∧aH t=.mk t.kind t.rs t.am [u] t.mn t.mx t.lz t.ix t.nm by
   refine⟨_,rfl,?_⟩
   obtain⟨s,hs⟩:=List.length_eq_one_iff.1 hl
   rw[hs] at hx
   have hx:some s=some x:=hx
   injection hx with hx
   subst hx
   obtain⟨k,rs,am,subs,mn,mx,lz,ix,nm⟩:=t
   have hs:subs=[s]:=hs
   have hk7:k=7:=k7
   subst hs
   rw[aH,if_pos hk7,eu]
   rfl)
  obtain⟨u,hu,hft⟩:=HFT.out
  have HUE:=ah hu
  have HFT:=ah hft
  obtain⟨d0,d1,d2,d3,d4,d5,d6,d7,d8⟩:=aI CO
  have z0:=CO.frozen 0
  have z1:=CO.frozen 1
  have z2:=CO.frozen 2
  have z3:=CO.frozen 3
  have z4:=CO.frozen 4
  have z5:=CO.frozen 5
  have z6:=CO.frozen 6
  have z7:=CO.frozen 7
  have z8:=CO.frozen 8
  have y3:=HT.out.frozen 3
  clear hX hlx hcs hx hSg hgl k7 CO hl hu hft
  go_upto_region 4 with(go_at_call 60;refine(IH.out x (d+1) _ _ _ HXN.out HXK.out HXZ.out HXX.out).mono ?_;rintro e w5 ⟨cu,rfl,hNu,hU5⟩;rw[HUE.out] at hNu;obtain⟨UA,uc,VA,vc,rfl,-⟩:=hNu.top;have HNU:=ah hNu;have HU5:=ah hU5;clear hNu hU5;unfold au at HNU ⊢)
  have hUA:=(Upd.refl Nob w5).alloc (.cells #[.int .i64 u.kind,.slice UA u.rs.length uc,.int .i64 u.am,.slice VA u.subs.length vc,.int .i64 u.mn,.int .i64 u.mx,.bool u.lz,.int .i64 u.ix,.string u.nm] 47)
  have hU6:=HU5.out.trans hUA (fun _ _ h=>h)
  have HSB:=ah (Cells.new w5 47 #[.int .i64 u.kind,.slice UA u.rs.length uc,.int .i64 u.am,.slice VA u.subs.length vc,.int .i64 u.mn,.int .i64 u.mx,.bool u.lz,.int .i64 u.ix,.string u.nm])
  have HT:=ah (HT.out.upd hU6 aj)
  have HO:=ah (HO.out.upd hU6 aj)
  have HNU:=ah (HNU.out.bA hUA (fun _ _=>aj))
  have HU:=ah (HU.out.trans hU6 (fun _ _ h=>h))
  have HSX:=ah (show w2.heap.size≤w5.heap.size from HU5.out.size)
  clear hUA hU6 HU5 e0 e1 e2 e3 e4 e5 e6 e7 e8 d0 d1 d2 d3 d4 d5 d6 d7 d8 z0 z1 z2 z3 z4 z5 z6 z7 z8 y3 p0 p1 p2 p3 p4 p5 p6 p7 p8
  generalize w5.alloc (.cells #[.int .i64 u.kind,.slice UA u.rs.length uc,.int .i64 u.am,.slice VA u.subs.length vc,.int .i64 u.mn,.int .i64 u.mx,.bool u.lz,.int .i64 u.ix,.string u.nm] 47)=w6 at *
  generalize w5.heap.size=sb at *
  obtain⟨e0,e1,e2,e3,e4,e5,e6,e7,e8⟩:=aI HT.out
  obtain⟨s0,s1,s2,s3,s4,s5,s6,s7,s8⟩:=aI HSB.out
  have y3b:=(HT.out.alloc (.cells #[.int .i64 u.kind,.slice UA u.rs.length uc,.int .i64 u.am,.slice VA u.subs.length vc,.int .i64 u.mn,.int .i64 u.mx,.bool u.lz,.int .i64 u.ix,.string u.nm] 47)).frozen 3
  have e3b:(w6.alloc (.cells #[.int .i64 u.kind,.slice UA u.rs.length uc,.int .i64 u.am,.slice VA u.subs.length vc,.int .i64 u.mn,.int .i64 u.mx,.bool u.lz,.int .i64 u.ix,.string u.nm] 47)).cell? ⟨w.heap.size,3,none⟩=some (.slice (some ⟨g,o,none⟩) t.subs.length sc):=(HT.out.alloc _).ak rfl
  go_upto_region 5 with fail
  have hUA:=(Upd.refl Nob w6).alloc (.cells #[.int .i64 u.kind,.slice UA u.rs.length uc,.int .i64 u.am,.slice VA u.subs.length vc,.int .i64 u.mn,.int .i64 u.mx,.bool u.lz,.int .i64 u.ix,.string u.nm] 47)
  have HGS:=ah (Cells.new w6 47 #[.int .i64 u.kind,.slice UA u.rs.length uc,.int .i64 u.am,.slice VA u.subs.length vc,.int .i64 u.mn,.int .i64 u.mx,.bool u.lz,.int .i64 u.ix,.string u.nm])
  have HT:=ah (HT.out.upd hUA aj)
  have HO:=ah (HO.out.upd hUA aj)
  have HNU:=ah (HNU.out.bA hUA (fun _ _=>aj))
  have HU:=ah (HU.out.trans hUA (fun _ _ h=>h))
  have HG6:=ah (show ob < w6.heap.size∧w.heap.size < w6.heap.size from⟨by have:=HSB.out.lt;have:=HOB.out;have:=HZ.out;have:=HSX.out;omega,by have:=HSB.out.lt;have:=HOB.out;have:=HZ.out;have:=HSX.out;omega⟩)
  clear hUA e0 e1 e2 e3 e4 e5 e6 e7 e8 s0 s1 s2 s3 s4 s5 s6 s7 s8 y3b e3b
  generalize w6.alloc (.cells #[.int .i64 u.kind,.slice UA u.rs.length uc,.int .i64 u.am,.slice VA u.subs.length vc,.int .i64 u.mn,.int .i64 u.mx,.bool u.lz,.int .i64 u.ix,.string u.nm] 47)=w7 at *
  generalize w6.heap.size=gs at *
  have hc:=HT.out.aW 3 (.slice (some ⟨gs,0,none⟩) 1 1)
  have HT2:Hid (Cells (w7.setCell ⟨w.heap.size,3,none⟩ (.slice (some ⟨gs,0,none⟩) 1 1)) w.heap.size 47 #[.int .i64 t.kind,.slice RA t.rs.length rc,.int .i64 t.am,.slice (some ⟨gs,0,none⟩) 1 1,.int .i64 t.mn,.int .i64 t.mx,.bool t.lz,.int .i64 t.ix,.string t.nm]):=ah hc
  have hUs:=(Upd.refl (fun b=>b=w.heap.size) w7).setCell ⟨w.heap.size,3,none⟩ (.slice (some ⟨gs,0,none⟩) 1 1) (fun _=>rfl)
  have HO:=ah (HO.out.upd hUs (by have:=HOB.out;omega))
  have HGS:=ah (HGS.out.upd hUs (by have:=HG6.out;omega))
  have HNU:=ah (HNU.out.bA hUs (fun b hb e=>by have:=HZ.out;rcases hb with hb | hb;(have:=hb.2;omega);omega))
  have HU:=ah (HU.out.trans hUs (fun b hb e=>by omega))
  clear hc hUs
  generalize w7.setCell ⟨w.heap.size,3,none⟩ (.slice (some ⟨gs,0,none⟩) 1 1)=w8 at *
  obtain⟨e0,e1,e2,e3,e4,e5,e6,e7,e8⟩:=aI HT2.out
  obtain⟨d0,d1,d2,d3,d4,d5,d6,d7,d8⟩:=aI HO.out
  have z0:=HO.out.frozen 0
  have z1:=HO.out.frozen 1
  have z2:=HO.out.frozen 2
  have z3:=HO.out.frozen 3
  have z4:=HO.out.frozen 4
  have z5:=HO.out.frozen 5
  have z6:=HO.out.frozen 6
  have z7:=HO.out.frozen 7
  have z8:=HO.out.frozen 8
  go_wp2_with fail
  obtain⟨C9,U9⟩:=dK HO.out (.int .i64 t.kind) (.slice RA t.rs.length rc) (.int .i64 t.am) (.slice (some ⟨gs,0,none⟩) 1 1) (.int .i64 t.mn) (.int .i64 t.mx) (.bool t.lz) (.int .i64 t.ix) (.string t.nm)
  obtain⟨q0,q1,q2,q3,q4,q5,q6,q7,q8⟩:=aI C9
  refine bodyPost_ret (by simp[results,Try.results60,go_sem,q0,q1,q2,q3,q4,q5,q6,q7,q8];try rfl) rfl ?_
  refine HP.out _ _ ?_ (HU.out.trans U9 (fun b hb e=>by have:=HOB.out;omega))
  rw[HFT.out]
  have U2:=HU.out.trans U9 (fun b hb e=>by have:=HOB.out;omega)
  have hto:=HTO.out
  refine aB.of (t:=.mk t.kind t.rs t.am [u] t.mn t.mx t.lz t.ix t.nm) (RA:=RA) (rc:=rc) (SA:=some ⟨gs,0,none⟩) (sc:=1) ((HRR.out.upd U2 (fun _ _=>aj)).weaken_ (fun _ h=>.inl h)) ⟨hto.k,hto.a,hto.m,hto.x,hto.i,by show 1≤_;omega,hto.s⟩ (fun i x hx=>?_)
  match i,hx with
  | 0,hx =>
   have hx:some u=some x:=hx
   injection hx with hx
   subst hx
   have hg:=(HGS.out.upd U9 (by have:=HG6.out;omega))
   refine⟨_,gs,0,_,rfl,by simp[Addr.add],.inr (by have:=HG6.out;omega),hg.lt,fun j v hv=>by rw[Nat.zero_add];exact hg.ak hv,(HNU.out.bA U9 (fun b hb e=>by have:=HZ.out;have:=HOB.out;rcases hb with hb | hb;(have:=hb.2;omega);omega)).weaken (fun b hb=>hb.elim (fun h=>.inl h.1) (fun h=>.inr (by have:=HZ.out;omega)))⟩
  | i+1,hx=>simp[Tree.subs] at hx
 have c7:(t.kind==7)=false:=by simpa using k7
 by_cases k6:t.kind=6
 ·have c6:(t.kind==6)=true:=by simp[k6]
  have c4:(t.kind==4)=false:=by simp[k6]
  have c5:(t.kind==5)=false:=by simp[k6]
  have hl:=HQ.out.one (.inl k6)
  have hcn:=HQ.out.cnt k6
  have HFT:=ah (show aH t=kD (eu t.subs) t.mn t.mx t.lz by
   obtain⟨k',rs,am,subs,mn,mx,lz,ix,nm⟩:=t
   have k6:k'=6:=k6
   rw[aH,if_neg (by omega),if_neg (by omega),if_neg (by omega),if_pos k6]
   rfl)
  have HUN:=ah (unfold7_any t w2 (fun b=>S b∧b < w.heap.size) _ H1.out hl hcn (fun hx x hm w S cs hN=>by
   obtain⟨i,hi⟩:=List.mem_iff_getElem?.1 hm
   have hs:=HWD.out.sub (fun _=>hx) x hm
   have hz:=HSZT.out
   exact IH.out x (d+1) w S cs (by have:=Tree.sub_lt hm;have:=HN.out;omega) (H3.out i x hi) (by omega) hN) (fun hx x hm=>by
   obtain⟨a,b,c⟩:=HWD.out.rep k6 hx x hm
   have hz:=HSZT.out
   exact⟨by omega,fun h=>by have:=b h;omega,fun h=>by have:=c h;omega⟩))
  obtain⟨jt,hjt⟩:∃jt,kD (eu t.subs) t.mn t.mx t.lz=jt:=⟨_,rfl⟩
  rw[hjt] at HUN HFT
  clear hjt hl hcn k6 k7 CO
  go_wp2_with (go_at_call 85;refine HUN.out.mono ?_;rintro e w9 ⟨cj,rfl,hNj,hU9⟩;obtain⟨JA,jc,IA,ic,rfl,-⟩:=hNj.top;have HNJ:=ah hNj;have HO9:=ah (HO.out.upd hU9 aj);have HU9:=ah (HU.out.trans hU9 (fun _ _ h=>h));clear hNj hU9;unfold au at HNJ ⊢;obtain⟨d0,d1,d2,d3,d4,d5,d6,d7,d8⟩:=aI HO9.out;have z0:=HO9.out.frozen 0;have z1:=HO9.out.frozen 1;have z2:=HO9.out.frozen 2;have z3:=HO9.out.frozen 3;have z4:=HO9.out.frozen 4;have z5:=HO9.out.frozen 5;have z6:=HO9.out.frozen 6;have z7:=HO9.out.frozen 7;have z8:=HO9.out.frozen 8)
  obtain⟨C9,U9⟩:=dK HO9.out (.int .i64 jt.kind) (.slice JA jt.rs.length jc) (.int .i64 jt.am) (.slice IA jt.subs.length ic) (.int .i64 jt.mn) (.int .i64 jt.mx) (.bool jt.lz) (.int .i64 jt.ix) (.string jt.nm)
  obtain⟨q0,q1,q2,q3,q4,q5,q6,q7,q8⟩:=aI C9
  refine bodyPost_ret (by simp[results,Try.results60,go_sem,q0,q1,q2,q3,q4,q5,q6,q7,q8];try rfl) rfl ?_
  refine HP.out _ _ ?_ (HU9.out.trans U9 (fun b hb e=>by have:=HOB.out;omega))
  rw[HFT.out]
  exact(HNJ.out.bA U9 (fun b hb e=>by have:=HZ.out;have:=HOB.out;rcases hb with hb | hb;(have:=hb.2;omega);omega)).weaken (fun b hb=>hb.elim (fun h=>.inl h.1) (fun h=>.inr (by have:=HZ.out;omega)))
 have c6:(t.kind==6)=false:=by simpa using k6
 by_cases k45:t.kind=4∨t.kind=5
 ·rcases k45 with k | k
  ·have c4:(t.kind==4)=true:=by simp[k]
   have HKD:=ah k
   clear k k7 k6 CO
   have HR0:=ah (iD.nil (S:=fun b=>S b∧b < w.heap.size) (Nat.le_refl w2.heap.size))
   clear e0 e1 e2 e3 e4 e5 e6 e7 e8
   have e0:w2.cell? ⟨w.heap.size,0,none⟩=some (.int .i64 t.kind):=HT.out.ak rfl
   go_wp2_with fail
   clear e0
   go_loopg [4,5,6] t.subs.length (fun gk v4 v5 v6 wr=>∃(k:Nat) (l:List Tree) (A:Option Addr) (c:Nat),k+gk=t.subs.length∧l=aU (t.subs.take k)∧v5=.int .i64 (k:Int)∧v4=.slice A l.length c∧iD wr w2.heap.size (fun b=>S b∧b < w.heap.size) A c l∧Upd Nob w2 wr)
   case atStart=>exact⟨0,[],none,0,by omega,by simp[aU],rfl,rfl,HR0.out,Upd.refl _ _⟩
   case round =>
   clear HR0
   obtain⟨k,l,A,c,hk,hl,rfl,rfl,hR,hUr⟩:=hrel
   have HR:=ah hR
   have HUr:=ah hUr
   have HK:=ah hk
   have HL:=ah hl
   have b3:wr.cell? ⟨w.heap.size,0+3,none⟩=some (.slice SA t.subs.length sc):=(HT.out.upd hUr aj).ak rfl
   by_cases hlt:k < t.subs.length
   ·have g2:(k:Int) < (t.subs.length:Int):=by omega
    obtain⟨ad,g,o,x,PA,pc,QA,qc,rfl,hadd,hSg,hgl,hx,hX,hlx,hcs⟩:=aB.sub H1.out.open_.2.2 hlt
    obtain⟨p0,p1,p2,p3,p4,p5,p6,p7,p8⟩:=bH (fun j v hv=>(hUr.cell (p:=⟨g,o+j,none⟩) hgl aj).trans (hcs j v hv))
    have HXN:=ah (show SizeOf.sizeOf x≤n by have:=HN.out;omega)
    have HXK:=ah (H3.out k x hx)
    have HXG:=ah hx
    have HXX:=ah (hX.bA hUr (fun _ _=>aj))
    have HXZ:=ah (show szT x < 1000000 by have:=HWD.out.sub (fun h=>by have:=HKD.out;omega) x (List.mem_of_getElem? hx);have:=HSZT.out;omega)
    have HBN:=ah (show(aU (t.subs.take (k+1))).length≤1000000 by have h1:=wdL_take t.subs (k+1);have h2:=len_wdL (aU (t.subs.take (k+1)));have h4:=HWD.out.all (.inl HKD.out);have h5:=HSZT.out;omega)
    obtain⟨u,hu⟩:∃u,aH x=u:=⟨_,rfl⟩
    have HUE:=ah hu
    clear hcs hX hlx hx hUr hk hl hR hSg hgl hu
    go_upto_region 12 with(go_at_call 60;refine(IH.out x (d+1) _ _ _ HXN.out HXK.out HXZ.out HXX.out).mono ?_;rintro e w5 ⟨cu,rfl,hNu,hU5⟩;rw[HUE.out] at hNu;have HNU:=ah (HR.out.fresh (S':=fun b=>S b∧b < w.heap.size) (fun b hb=>.inl ⟨hb,by have:=hb.2;have:=HZ.out;omega⟩) hNu);obtain⟨UA,uc,VA,vc,rfl,-⟩:=hNu.top;have HU5:=ah hU5;clear hNu hU5;unfold au at HNU ⊢)
    have hUA:=(Upd.refl Nob w5).alloc (.cells #[.int .i64 u.kind,.slice UA u.rs.length uc,.int .i64 u.am,.slice VA u.subs.length vc,.int .i64 u.mn,.int .i64 u.mx,.bool u.lz,.int .i64 u.ix,.string u.nm] 47)
    have hU6:=HU5.out.trans hUA (fun _ _ h=>h)
    have HSB:=ah (Cells.new w5 47 #[.int .i64 u.kind,.slice UA u.rs.length uc,.int .i64 u.am,.slice VA u.subs.length vc,.int .i64 u.mn,.int .i64 u.mx,.bool u.lz,.int .i64 u.ix,.string u.nm])
    have HNU:=ah (HNU.out.bA hUA (fun _ _=>aj))
    have HRr:=ah (HR.out.upd hU6 (fun _ h=>absurd h aj))
    have HUb:=ah (HUr.out.trans hU6 (fun _ _ h=>h))
    clear hUA hU6 HU5 b3 p0 p1 p2 p3 p4 p5 p6 p7 p8
    generalize w5.alloc (.cells #[.int .i64 u.kind,.slice UA u.rs.length uc,.int .i64 u.am,.slice VA u.subs.length vc,.int .i64 u.mn,.int .i64 u.mx,.bool u.lz,.int .i64 u.ix,.string u.nm] 47)=w6 at *
    generalize w5.heap.size=sb at *
    obtain⟨s0,s1,s2,s3,s4,s5,s6,s7,s8⟩:=aI HSB.out
    have HML:=ah (show l++[u]=aU (t.subs.take (k+1)) by rw[formTL_more HXG.out,HL.out,HUE.out])
    go_wp2_with (at_builtin;refine iU rfl _ _ rfl (y:=u) rfl rfl (HRr.out.upd ((Upd.refl Nob w6).alloc _) (fun _ h=>absurd h aj)) (Cells.new w6 _ _) (HNU.out.bA ((Upd.refl Nob w6).alloc _) (fun _ _=>aj)) (by have h1:=HBN.out;have h2:=HML.out;rw[←h2] at h1;simp at h1;omega) ?_;intro A' c' ww hR' hU';have HUW:=ah ((HUb.out.alloc _).trans hU' (fun b hb e=>by omega));generalize hl2:l++[u]=l2 at hR' ⊢;rw[HML.out] at hl2;have HL2:=ah hl2;have HRW:=ah hR';clear hR' hU' hl2)
    go_roundg (t.subs.length - (k+1))
    case measure=>have:=HK.out;omega
    case rel=>exact⟨k+1,l2,A',c',by have:=HK.out;omega,HL2.out.symm,by go_num,rfl,HRW.out,HUW.out⟩
   ·have g2:¬(k:Int) < (t.subs.length:Int):=by omega
    have HLE:=ah (show l=aU t.subs by rw[hl,List.take_of_length_le (by omega)])
    clear hUr hk hl hR
    have gU:=ah (HR.out.subs (S':=fun b=>(S b∧b < w.heap.size)∨w2.heap.size≤b) (fun b h=>.inl h) (fun b h=>.inr h))
    have HLEN:=ah (show l.length≤1000000∧fwL l≤1000000 by
     have h1:=len_wdL l
     have h2:=fwL_le l
     have h3:=wzL_wdL l
     have h4:=HWD.out.all (.inl HKD.out)
     have h5:=HSZT.out
     rw[←HLE.out] at h4
     omega)
    have HJT:=ah (show aH t=bR l by
     rw[HLE.out]
     obtain⟨k',rs,am,subs,mn,mx,lz,ix,nm⟩:=t
     have k:k'=4:=HKD.out
     rw[aH,if_neg (by omega),if_pos k]
     rfl)
    obtain⟨jt,hjt⟩:∃jt,bR l=jt:=⟨_,rfl⟩
    have HJL:=ah hjt
    rw[hjt] at HJT
    clear hjt
    go_wp2_with (go_at_call 84;refine(join7_any l _ (fun b=>(S b∧b < w.heap.size)∨w2.heap.size≤b) _ _ gU.out HLEN.out.1 HLEN.out.2).mono ?_;rintro e w9 ⟨cj,rfl,hNj,hU9⟩;rw[HJL.out] at hNj;obtain⟨JA,jc,IA,ic,rfl,-⟩:=hNj.top;have HNJ:=ah (hNj.weaken (S':=fun b=>(S b∧b < w.heap.size)∨w2.heap.size≤b) (fun b h=>h.elim (fun h=>h) (fun h=>.inr (Nat.le_trans HUr.out.size h))));have HO9:=ah (HO.out.upd (HUr.out.trans hU9 (fun _ _ h=>h)) aj);have HU9:=ah (HU.out.trans (HUr.out.trans hU9 (fun _ _ h=>h)) (fun _ _ h=>h));clear hNj hU9;unfold au at HNJ ⊢;obtain⟨d0,d1,d2,d3,d4,d5,d6,d7,d8⟩:=aI HO9.out;have z0:=HO9.out.frozen 0;have z1:=HO9.out.frozen 1;have z2:=HO9.out.frozen 2;have z3:=HO9.out.frozen 3;have z4:=HO9.out.frozen 4;have z5:=HO9.out.frozen 5;have z6:=HO9.out.frozen 6;have z7:=HO9.out.frozen 7;have z8:=HO9.out.frozen 8)
    obtain⟨C9,U9⟩:=dK HO9.out (.int .i64 jt.kind) (.slice JA jt.rs.length jc) (.int .i64 jt.am) (.slice IA jt.subs.length ic) (.int .i64 jt.mn) (.int .i64 jt.mx) (.bool jt.lz) (.int .i64 jt.ix) (.string jt.nm)
    obtain⟨q0,q1,q2,q3,q4,q5,q6,q7,q8⟩:=aI C9
    refine bodyPost_ret (by simp[results,Try.results60,go_sem,q0,q1,q2,q3,q4,q5,q6,q7,q8];try rfl) rfl ?_
    refine HP.out _ _ ?_ (HU9.out.trans U9 (fun b hb e=>by have:=HOB.out;omega))
    rw[HJT.out]
    exact(HNJ.out.bA U9 (fun b hb e=>by have:=HZ.out;have:=HOB.out;rcases hb with hb | hb;(have:=hb.2;omega);omega)).weaken (fun b hb=>hb.elim (fun h=>.inl h.1) (fun h=>.inr (by have:=HZ.out;omega)))
  ·have c4:(t.kind==4)=false:=by simp[k]
   have c5:(t.kind==5)=true:=by simp[k]
   have HKD:=ah k
   clear k k7 k6 CO
   have HR0:=ah (iD.nil (S:=fun b=>S b∧b < w.heap.size) (Nat.le_refl w2.heap.size))
   clear e0 e1 e2 e3 e4 e5 e6 e7 e8
   have e0:w2.cell? ⟨w.heap.size,0,none⟩=some (.int .i64 t.kind):=HT.out.ak rfl
   go_wp2_with fail
   clear e0
   go_loopg [7,8,9] t.subs.length (fun gk v7 v8 v9 wr=>∃(k:Nat) (l:List Tree) (A:Option Addr) (c:Nat),k+gk=t.subs.length∧l=cK (aU (t.subs.take k))∧v8=.int .i64 (k:Int)∧v7=.slice A l.length c∧iD wr w2.heap.size (fun b=>S b∧b < w.heap.size) A c l∧Upd Nob w2 wr)
   case atStart=>exact⟨0,[],none,0,by omega,by simp[aU,cK],rfl,rfl,HR0.out,Upd.refl _ _⟩
   case round =>
   clear HR0
   obtain⟨k,l,A,c,hk,hl,rfl,rfl,hR,hUr⟩:=hrel
   have HR:=ah hR
   have HUr:=ah hUr
   have HK:=ah hk
   have HL:=ah hl
   have b3:wr.cell? ⟨w.heap.size,0+3,none⟩=some (.slice SA t.subs.length sc):=(HT.out.upd hUr aj).ak rfl
   by_cases hlt:k < t.subs.length
   ·have g2:(k:Int) < (t.subs.length:Int):=by omega
    obtain⟨ad,g,o,x,PA,pc,QA,qc,rfl,hadd,hSg,hgl,hx,hX,hlx,hcs⟩:=aB.sub H1.out.open_.2.2 hlt
    obtain⟨p0,p1,p2,p3,p4,p5,p6,p7,p8⟩:=bH (fun j v hv=>(hUr.cell (p:=⟨g,o+j,none⟩) hgl aj).trans (hcs j v hv))
    have HXN:=ah (show SizeOf.sizeOf x≤n by have:=HN.out;omega)
    have HXK:=ah (H3.out k x hx)
    have HXG:=ah hx
    have HXX:=ah (hX.bA hUr (fun _ _=>aj))
    have HXZ:=ah (show szT x < 1000000 by have:=HWD.out.sub (fun h=>by have:=HKD.out;omega) x (List.mem_of_getElem? hx);have:=HSZT.out;omega)
    have HBN:=ah (show(cK (aU (t.subs.take (k+1)))).length≤1000000 by have h1:=wdL_take t.subs (k+1);have h2:=flatA_le (aU (t.subs.take (k+1)));have h4:=HWD.out.all (.inr HKD.out);have h5:=HSZT.out;omega)
    obtain⟨u,hu⟩:∃u,aH x=u:=⟨_,rfl⟩
    have HUE:=ah hu
    clear hcs hX hlx hx hUr hk hl hR hSg hgl hu
    go_upto_region 20 with(go_at_call 60;refine(IH.out x (d+1) _ _ _ HXN.out HXK.out HXZ.out HXX.out).mono ?_;rintro e w5 ⟨cu,rfl,hNu,hU5⟩;rw[HUE.out] at hNu;have HNU:=ah (HR.out.fresh (S':=fun b=>S b∧b < w.heap.size) (fun b hb=>.inl ⟨hb,by have:=hb.2;have:=HZ.out;omega⟩) hNu);obtain⟨UA,uc,VA,vc,rfl,-⟩:=hNu.top;have HU5:=ah hU5;clear hNu hU5;unfold au at HNU ⊢)
    have hUA:=(Upd.refl Nob w5).alloc (.cells #[.int .i64 u.kind,.slice UA u.rs.length uc,.int .i64 u.am,.slice VA u.subs.length vc,.int .i64 u.mn,.int .i64 u.mx,.bool u.lz,.int .i64 u.ix,.string u.nm] 47)
    have hU6:=HU5.out.trans hUA (fun _ _ h=>h)
    have HSB:=ah (Cells.new w5 47 #[.int .i64 u.kind,.slice UA u.rs.length uc,.int .i64 u.am,.slice VA u.subs.length vc,.int .i64 u.mn,.int .i64 u.mx,.bool u.lz,.int .i64 u.ix,.string u.nm])
    have HNU:=ah (HNU.out.bA hUA (fun _ _=>aj))
    have HRr:=ah (HR.out.upd hU6 (fun _ h=>absurd h aj))
    have HUb:=ah (HUr.out.trans hU6 (fun _ _ h=>h))
    clear hUA hU6 HU5 b3 p0 p1 p2 p3 p4 p5 p6 p7 p8
    generalize w5.alloc (.cells #[.int .i64 u.kind,.slice UA u.rs.length uc,.int .i64 u.am,.slice VA u.subs.length vc,.int .i64 u.mn,.int .i64 u.mx,.bool u.lz,.int .i64 u.ix,.string u.nm] 47)=w6 at *
    generalize w5.heap.size=sb at *
    obtain⟨s0,s1,s2,s3,s4,s5,s6,s7,s8⟩:=aI HSB.out
    by_cases ku:u.kind=5
    ·have cu:(u.kind==5)=true:=by simp[ku]
     have HML:=ah (show l++u.subs=cK (aU (t.subs.take (k+1))) by rw[formTL_more HXG.out,flatA_app,HL.out,HUE.out];simp[cK,ku])
     clear ku
     go_wp2_with (at_builtin;refine push_nodes rfl _ _ rfl (xs:=u.subs) rfl rfl HRr.out (show kI w6 _ VA u.subs from HNU.out.open_.2.2) (by have h1:=HBN.out;have h2:=HML.out;rw[←h2] at h1;simp at h1;omega) ?_;intro A' c' ww hR' hU';have HUW:=ah (HUb.out.trans hU' (fun b hb e=>by omega));generalize hl2:l++u.subs=l2 at hR' ⊢;rw[HML.out] at hl2;have HL2:=ah hl2;have HRW:=ah hR';clear hR' hU' hl2)
     go_roundg (t.subs.length - (k+1))
     case measure=>have:=HK.out;omega
     case rel=>exact⟨k+1,l2,A',c',by have:=HK.out;omega,HL2.out.symm,by go_num,rfl,HRW.out,HUW.out⟩
    ·have cu:(u.kind==5)=false:=by simpa using ku
     have HML:=ah (show l++[u]=cK (aU (t.subs.take (k+1))) by rw[formTL_more HXG.out,flatA_app,HL.out,HUE.out];simp[cK,ku])
     clear ku
     go_wp2_with (at_builtin;refine iU rfl _ _ rfl (y:=u) rfl rfl (HRr.out.upd ((Upd.refl Nob w6).alloc _) (fun _ h=>absurd h aj)) (Cells.new w6 _ _) (HNU.out.bA ((Upd.refl Nob w6).alloc _) (fun _ _=>aj)) (by have h1:=HBN.out;have h2:=HML.out;rw[←h2] at h1;simp at h1;omega) ?_;intro A' c' ww hR' hU';have HUW:=ah ((HUb.out.alloc _).trans hU' (fun b hb e=>by omega));generalize hl2:l++[u]=l2 at hR' ⊢;rw[HML.out] at hl2;have HL2:=ah hl2;have HRW:=ah hR';clear hR' hU' hl2)
     go_roundg (t.subs.length - (k+1))
     case measure=>have:=HK.out;omega
     case rel=>exact⟨k+1,l2,A',c',by have:=HK.out;omega,HL2.out.symm,by go_num,rfl,HRW.out,HUW.out⟩
   ·have g2:¬(k:Int) < (t.subs.length:Int):=by omega
    have HLE:=ah (show l=cK (aU t.subs) by rw[hl,List.take_of_length_le (by omega)])
    clear hUr hk hl hR
    have HLEN:=ah (show l.length≤1000000 by
     have h1:=flatA_le (aU t.subs)
     have h4:=HWD.out.all (.inr HKD.out)
     have h5:=HSZT.out
     rw[←HLE.out] at h1
     omega)
    have HJT:=ah (show aH t=eY l by
     rw[HLE.out]
     obtain⟨k',rs,am,subs,mn,mx,lz,ix,nm⟩:=t
     have k:k'=5:=HKD.out
     rw[aH,if_neg (by omega),if_neg (by omega),if_pos k]
     rfl)
    have HO9:=ah (HO.out.upd HUr.out aj)
    have HU9:=ah (HU.out.trans HUr.out (fun _ _ h=>h))
    obtain⟨d0,d1,d2,d3,d4,d5,d6,d7,d8⟩:=aI HO9.out
    have z0:=HO9.out.frozen 0
    have z1:=HO9.out.frozen 1
    have z2:=HO9.out.frozen 2
    have z3:=HO9.out.frozen 3
    have z4:=HO9.out.frozen 4
    have z5:=HO9.out.frozen 5
    have z6:=HO9.out.frozen 6
    have z7:=HO9.out.frozen 7
    have z8:=HO9.out.frozen 8
    go_wp2_with fail
    obtain⟨C9,U9⟩:=dK HO9.out (.int .i64 5) (.slice none 0 0) (.int .i64 0) (.slice A l.length c) (.int .i64 0) (.int .i64 0) (.bool false) (.int .i64 0) (.string ⟨#[]⟩)
    obtain⟨q0,q1,q2,q3,q4,q5,q6,q7,q8⟩:=aI C9
    refine bodyPost_ret (by simp[results,Try.results60,go_sem,q0,q1,q2,q3,q4,q5,q6,q7,q8];try rfl) rfl ?_
    refine HP.out _ _ ?_ (HU9.out.trans U9 (fun b hb e=>by have:=HOB.out;omega))
    rw[HJT.out]
    refine aB.of (t:=eY l) (RA:=none) (rc:=0) (SA:=A) (sc:=c) jJ (jm (k:=5) (by omega) (by have:=HLEN.out;omega)) ?_
    exact(HR.out.upd U9 (fun b e=>by have:=HZ.out;have:=HOB.out;exact⟨by omega,fun h=>by have:=h.2;omega⟩)).subs (fun b h=>.inl h.1) (fun b h=>.inr (by have:=HZ.out;omega))
 ·have c4:(t.kind==4)=false:=by simp;omega
  have c5:(t.kind==5)=false:=by simp;omega
  have HFT:=ah (show aH t=t by
   obtain⟨k',rs,am,subs,mn,mx,lz,ix,nm⟩:=t
   have k6:¬k'=6:=k6
   have k7:¬k'=7:=k7
   have k45:¬(k'=4∨k'=5):=k45
   rw[aH,if_neg k7,if_neg (by omega),if_neg (by omega),if_neg k6])
  obtain⟨d0,d1,d2,d3,d4,d5,d6,d7,d8⟩:=aI CO
  have z0:=CO.frozen 0
  have z1:=CO.frozen 1
  have z2:=CO.frozen 2
  have z3:=CO.frozen 3
  have z4:=CO.frozen 4
  have z5:=CO.frozen 5
  have z6:=CO.frozen 6
  have z7:=CO.frozen 7
  have z8:=CO.frozen 8
  clear k45 k6 k7 CO
  go_wp2_with fail
  obtain⟨C9,U9⟩:=dK HO.out (.int .i64 t.kind) (.slice RA t.rs.length rc) (.int .i64 t.am) (.slice SA t.subs.length sc) (.int .i64 t.mn) (.int .i64 t.mx) (.bool t.lz) (.int .i64 t.ix) (.string t.nm)
  obtain⟨q0,q1,q2,q3,q4,q5,q6,q7,q8⟩:=aI C9
  refine bodyPost_ret (by simp[results,Try.results60,go_sem,q0,q1,q2,q3,q4,q5,q6,q7,q8];try rfl) rfl ?_
  refine HP.out _ _ ?_ (HU.out.trans U9 (fun b hb e=>by have:=HOB.out;omega))
  rw[HFT.out]
  exact(H1.out.bA U9 (fun b hb e=>by have:=HOB.out;have:=hb.2;omega)).weaken (fun b hb=>.inl hb.1)
end Go.Proofs.Ytnkefclbchpafaa

/-
  The walk of jV.Simplify, of a tree that may be and is small. Printed by gen_simp7.py.
-/
namespace Go.Proofs.Ytnkefclbchpafaa
set_option maxRecDepth 100000
set_option maxHeartbeats 16000000
open Go.RowKit
set_option linter.unusedVariables false
def node0:Array Value:=#[.int .i64 0,.slice none 0 0,.int .i64 0,.slice none 0 0,.int .i64 0,.int .i64 0,.bool false,.int .i64 0,.string ⟨#[]⟩]
def SimpAns (t:Tree) (S:Nat→Prop) (w:World) (e:Ending) (w':World):Prop :=
 ∃(cs:Array Value) (er:Int),e=.returned (.tuple #[.agg cs,.int .i64 er])∧Upd Nob w w'∧((er=3∧cs=node0)∨(er=0∧aB w' (fun b=>S b∨w.heap.size≤b) cs (aH t)))
theorem simp7_any (t:Tree) (w:World) (S:Nat→Prop) (cs:Array Value) (h1:aB w S cs t) (hs:d9 t) (hz:szT t < 1000000) :
  Calls Try.prog 39 #[.agg cs] w (SimpAns t S w):=by
 obtain⟨RA,rc,SA,sc,rfl,-⟩:=h1.top
 generalize hP:SimpAns t S w=P
 have HP0:=ah (show ∀w',Upd Nob w w'→P (.returned (.tuple #[.agg #[.int .i64 0,.slice none 0 0,.int .i64 0,.slice none 0 0,.int .i64 0,.int .i64 0,.bool false,.int .i64 0,.string ⟨#[]⟩],.int .i64 3])) w' from fun w' a=>by rw[←hP];exact⟨_,_,rfl,a,.inl ⟨rfl,rfl⟩⟩)
 have HP:=ah (show ∀cs w',aB w' (fun b=>S b∨w.heap.size≤b) cs (aH t)→Upd Nob w w'→P (.returned (.tuple #[.agg cs,.int .i64 0])) w' from fun cs w' a b=>by rw[←hP];exact⟨_,_,rfl,b,.inr ⟨rfl,a⟩⟩)
 clear hP
 have C0:=Cells.new w 47 (au t RA rc SA sc)
 have hU:=(Upd.refl Nob w).alloc (.cells (au t RA rc SA sc) 47)
 have sX:(w.alloc (.cells (au t RA rc SA sc) 47)).heap.size=w.heap.size+1:=by simp
 have hL:=h1.both
 have HSF:=ah hs
 have HSZT:=ah hz
 clear hs hz h1
 unfold au at C0 hU hL sX
 unfold au
 go_enter Try.func39,Try.ntmps39
 go_upto_region 1 with fail
 generalize w.alloc (.cells #[.int .i64 t.kind,.slice RA t.rs.length rc,.int .i64 t.am,.slice SA t.subs.length sc,.int .i64 t.mn,.int .i64 t.mx,.bool t.lz,.int .i64 t.ix,.string t.nm] 47)=w1 at *
 have CO:=Cells.new w1 47 #[.int .i64 0,.slice none 0 0,.int .i64 0,.slice none 0 0,.int .i64 0,.int .i64 0,.bool false,.int .i64 0,.string ⟨#[]⟩]
 have hU2:=hU.alloc (.cells #[.int .i64 0,.slice none 0 0,.int .i64 0,.slice none 0 0,.int .i64 0,.int .i64 0,.bool false,.int .i64 0,.string ⟨#[]⟩] 47)
 have CT:=C0.alloc (.cells #[.int .i64 0,.slice none 0 0,.int .i64 0,.slice none 0 0,.int .i64 0,.int .i64 0,.bool false,.int .i64 0,.string ⟨#[]⟩] 47)
 have s2:(w1.alloc (.cells #[.int .i64 0,.slice none 0 0,.int .i64 0,.slice none 0 0,.int .i64 0,.int .i64 0,.bool false,.int .i64 0,.string ⟨#[]⟩] 47)).heap.size=w.heap.size+2:=by simp[sX]
 rw[sX] at CO
 generalize w1.alloc (.cells #[.int .i64 0,.slice none 0 0,.int .i64 0,.slice none 0 0,.int .i64 0,.int .i64 0,.bool false,.int .i64 0,.string ⟨#[]⟩] 47)=w2 at *
 have H1:=ah (hL.bA hU2 (fun _ _=>aj))
 have HU:=ah hU2
 have HT:=ah CT
 have HO:=ah CO
 have HZ:=ah s2
 obtain⟨ob,hob⟩:∃ob,w.heap.size+1=ob:=⟨_,rfl⟩
 have HOB:=ah hob
 simp only[hob] at CO ⊢
 rw[hob] at HO
 clear hob
 obtain⟨e0,e1,e2,e3,e4,e5,e6,e7,e8⟩:=aI CT
 clear CT C0 CO hL hU hU2 sX s2
 go_upto_region 2 with(go_at_call 22;refine(iI t w2 _ _ H1.out).mono ?_;rintro e w3 ⟨r,rfl,-,hr,hU3⟩;rw[hr HSF.out,if_pos rfl];have HU3:=ah hU3;clear hU3 hr)
 have H1:=ah (H1.out.bA HU3.out (fun _ _=>aj))
 have HT:=ah (HT.out.upd HU3.out aj)
 have HO:=ah (HO.out.upd HU3.out aj)
 have HW3:=ah HU3.out.size
 have HU:=ah (HU.out.trans HU3.out (fun _ _ h=>h))
 clear HU3 e0 e1 e2 e3 e4 e5 e6 e7 e8
 obtain⟨e0,e1,e2,e3,e4,e5,e6,e7,e8⟩:=aI HT.out
 go_upto_region 5 with(go_at_call 59;refine(reckon_go _ t 1 w3 _ _ (Nat.le_refl _) HSF.out.1 H1.out).mono ?_;rintro e w4 ⟨k1,n1,s1,d1,rfl,hU4⟩;have HU4:=ah hU4;clear hU4;unfold gX)
 have hUA:=HU4.out.alloc (.cells #[.int .i64 k1,.int .i64 n1,.int .i64 s1,.int .i64 d1] 115)
 have CS:=Cells.new w4 115 #[.int .i64 k1,.int .i64 n1,.int .i64 s1,.int .i64 d1]
 have H1:=ah (H1.out.bA hUA (fun _ _=>aj))
 have HT:=ah (HT.out.upd hUA aj)
 have HO:=ah (HO.out.upd hUA aj)
 have HW5:=ah hUA.size
 have HU:=ah (HU.out.trans hUA (fun _ _ h=>h))
 clear HU4 hUA e0 e1 e2 e3 e4 e5 e6 e7 e8
 generalize w4.alloc (.cells #[.int .i64 k1,.int .i64 n1,.int .i64 s1,.int .i64 d1] 115)=w5 at *
 generalize w4.heap.size=sb at *
 obtain⟨e0,e1,e2,e3,e4,e5,e6,e7,e8⟩:=aI HT.out
 obtain⟨x0,x1,x2,x3⟩:=aA CS
 obtain⟨d0,d1,d2,d3,d4,d5,d6,d7,d8⟩:=aI HO.out
 have z0:=HO.out.frozen 0
 have z1:=HO.out.frozen 1
 have z2:=HO.out.frozen 2
 have z3:=HO.out.frozen 3
 have z4:=HO.out.frozen 4
 have z5:=HO.out.frozen 5
 have z6:=HO.out.frozen 6
 have z7:=HO.out.frozen 7
 have z8:=HO.out.frozen 8
 clear CS
 obtain⟨u,hu⟩:∃u,aH t=u:=⟨_,rfl⟩
 have HUE:=ah hu
 rw[hu] at HP
 clear hu
 have HFO:=ah (form_go _ t 1 w5 _ _ (Nat.le_refl _) HSF.out.1 HSZT.out H1.out)
 rw[HUE.out] at HFO
 have z0F:=z0
 go_wp2_with (go_at_call 60;refine HFO.out.mono ?_;rintro e w9 ⟨cu,rfl,hNu,hU9⟩;obtain⟨UA,uc,VA,vc,rfl,-⟩:=hNu.top;have HNU:=ah hNu;have HO9:=ah (HO.out.upd hU9 aj);have HU9:=ah (HU.out.trans hU9 (fun _ _ h=>h));clear hNu hU9;unfold au at HNU ⊢;obtain⟨d0,d1,d2,d3,d4,d5,d6,d7,d8⟩:=aI HO9.out;have z0:=HO9.out.frozen 0;have z1:=HO9.out.frozen 1;have z2:=HO9.out.frozen 2;have z3:=HO9.out.frozen 3;have z4:=HO9.out.frozen 4;have z5:=HO9.out.frozen 5;have z6:=HO9.out.frozen 6;have z7:=HO9.out.frozen 7;have z8:=HO9.out.frozen 8)
 all_goals
  first
   | (obtain⟨C9,U9⟩:=dK HO9.out (.int .i64 u.kind) (.slice UA u.rs.length uc) (.int .i64 u.am) (.slice VA u.subs.length vc) (.int .i64 u.mn) (.int .i64 u.mx) (.bool u.lz) (.int .i64 u.ix) (.string u.nm)
      obtain⟨q0,q1,q2,q3,q4,q5,q6,q7,q8⟩:=aI C9
      refine bodyPost_ret (by simp[results,Try.results39,go_sem,q0,q1,q2,q3,q4,q5,q6,q7,q8];try rfl) rfl ?_
      refine HP.out _ _ ?_ (HU9.out.trans U9 (fun b hb e=>by have:=HOB.out;omega))
      exact(HNU.out.bA U9 (fun b hb e=>by have:=HZ.out;have:=HOB.out;have:=HW3.out;have:=HW5.out;rcases hb with hb | hb;(have:=hb.2;omega);omega)).weaken (fun b hb=>hb.elim (fun h=>.inl h.1) (fun h=>.inr (by have:=HZ.out;have:=HW3.out;have:=HW5.out;omega))))
   | (obtain⟨C9,U9⟩:=dK HO.out (.int .i64 0) (.slice none 0 0) (.int .i64 0) (.slice none 0 0) (.int .i64 0) (.int .i64 0) (.bool false) (.int .i64 0) (.string ⟨#[]⟩)
      obtain⟨q0,q1,q2,q3,q4,q5,q6,q7,q8⟩:=aI C9
      refine bodyPost_ret (by simp[results,Try.results39,go_sem,q0,q1,q2,q3,q4,q5,q6,q7,q8];try rfl) rfl ?_
      exact HP0.out _ (HU.out.trans U9 (fun b hb e=>by have:=HOB.out;omega)))
end Go.Proofs.Ytnkefclbchpafaa

/-
  The walk of heronref09.greatest: the greatest Index of a tree.
-/
namespace Go.Proofs.Ytnkefclbchpafaa
set_option maxRecDepth 100000
set_option maxHeartbeats 16000000
open Go.RowKit
set_option linter.unusedVariables false
theorem greatest9_go (n:Nat):∀(t:Tree) (w:World) (S:Nat→Prop) (cs:Array Value),SizeOf.sizeOf t≤n→aB w S cs t →
  Calls Try.prog 43 #[.agg cs] w fun e w'=>e=.returned (.int .i64 (dF t))∧In64 (dF t)∧Upd Nob w w':=by
 induction n with
 | zero=>exact fun t _ _ _ h=>by obtain⟨k,r,a,l,m,x,z,i,nn⟩:=t;simp at h
 | succ n ih =>
 intro t w S cs hn h1
 obtain⟨RA,rc,SA,sc,rfl,hr1,ho,hs1⟩:=h1.top
 have C0:=Cells.new w 47 (au t RA rc SA sc)
 have hU:=(Upd.refl Nob w).alloc (.cells (au t RA rc SA sc) 47)
 have IH:=ah ih
 have HN:=ah hn
 have H1:=ah (h1.bA hU (fun _ _=>aj))
 have hnl:=ho.n
 have HIX:=ah ho.i
 have HE:=ah (grtT_eq t)
 clear ih hn h1 hr1 hs1 ho
 unfold au at C0 hU H1
 unfold au
 go_enter Try.func43,Try.ntmps43
 go_upto_region 1 with fail
 generalize w.alloc (.cells #[.int .i64 t.kind,.slice RA t.rs.length rc,.int .i64 t.am,.slice SA t.subs.length sc,.int .i64 t.mn,.int .i64 t.mx,.bool t.lz,.int .i64 t.ix,.string t.nm] 47)=w2 at *
 have HU:=ah hU
 have HC:=ah C0
 obtain⟨e0,e1,e2,e3,e4,e5,e6,e7,e8⟩:=aI C0
 clear C0 hU
 go_wp2_with fail
 go_loopg [3,4] t.subs.length (fun gk v3 v4 wr=>∃(k:Nat) (v:Int),k+gk=t.subs.length∧v4=.int .i64 (k:Int)∧v3=.int .i64 v∧In64 v∧grtL v (t.subs.drop k)=dF t∧Upd Nob w2 wr)
 case atStart=>exact⟨0,t.ix,by omega,rfl,rfl,HIX.out,by rw[List.drop_zero,HE.out],Upd.refl _ _⟩
 case round =>
  obtain⟨k,v,hk,rfl,rfl,hv,hgr,hUr⟩:=hrel
  have b3:wr.cell? ⟨w.heap.size,0+3,none⟩=some (.slice SA t.subs.length sc):=(HC.out.upd hUr aj).ak rfl
  have HUr:=ah hUr
  have HV:=ah hv
  have HGR:=ah hgr
  have HK:=ah hk
  by_cases hlt:k < t.subs.length
  ·have g2:(k:Int) < (t.subs.length:Int):=by omega
   obtain⟨ad,g,o,x,PA,pc,QA,qc,rfl,hadd,hSg,hgl,hx,hX,hlx,hcs⟩:=aB.sub H1.out.open_.2.2 hlt
   obtain⟨p0,p1,p2,p3,p4,p5,p6,p7,p8⟩:=bH (fun j v hv=>(hUr.cell (p:=⟨g,o+j,none⟩) hgl aj).trans (hcs j v hv))
   have hxn:SizeOf.sizeOf x≤n:=by have:=HN.out;omega
   have HX:=ah (hX.bA hUr (fun _ _=>aj))
   have hd:t.subs.drop k=x::t.subs.drop (k+1):=by
    rw[List.drop_eq_getElem_cons hlt]
    congr 1
    rw[List.getElem?_eq_getElem hlt] at hx
    injection hx
   rw[hd,grtL] at hgr
   have HGR:=ah hgr
   clear hcs hX hlx hx hd hgr hUr hv hk
   go_wp2_with (go_at_call 43;refine(IH.out x wr _ _ hxn HX.out).mono ?_;rintro e w5 ⟨rfl,hi5,hU5⟩;have HI5:=ah hi5;have HU5:=ah (HUr.out.trans hU5 (fun _ _ h=>h));clear hi5 hU5)
   ·go_roundg (t.subs.length - (k+1))
    case measure=>have:=HK.out;omega
    case rel=>exact⟨k+1,dF x,by have:=HK.out;omega,by go_num,rfl,HI5.out,by have h:=HGR.out;rwa [show max v (dF x)=dF x by omega] at h,HU5.out⟩
   ·go_roundg (t.subs.length - (k+1))
    case measure=>have:=HK.out;omega
    case rel=>exact⟨k+1,v,by have:=HK.out;omega,by go_num,rfl,HV.out,by have h:=HGR.out;rwa [show max v (dF x)=v by omega] at h,HU5.out⟩
  ·have g2:¬(k:Int) < (t.subs.length:Int):=by omega
   rw[List.drop_eq_nil_of_le (by omega),grtL] at hgr
   have HGR:=ah hgr
   clear hUr hv hgr hk
   go_wp2_with fail
   go_ret
   rw[←HGR.out]
   exact⟨rfl,HV.out,HU.out.trans HUr.out (fun _ _ h=>h)⟩
end Go.Proofs.Ytnkefclbchpafaa
