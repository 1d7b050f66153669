/-
  PkRun, Awake, Same, put together.
-/
import Derived.Test.YtnkefclbchpafaaZ40PkL
import Derived.Deep.RegionHeld3
import Derived.Handy

/-
  The walk of pike.Run.
-/
namespace Go.Proofs.Ytnkefclbchpafaa
set_option maxRecDepth 100000
set_option maxHeartbeats 16000000
open Go.RowKit
set_option linter.unusedVariables false
theorem pk_run (w:World) (S:Nat→Prop) (A:Option Addr) (n c:Nat) (is:List av) (start caps:Int) (T:Option Addr) (tn tc:Nat) (text:List Int) (a:Int) (anchored:Bool)
  (h:dH w S A n is) (hs:In64 start) (hc:In64 caps) (hn:n≤140737488355328) (ht:dB w S T tn text) (ha:In64 a) :
  Calls Try.prog 11 #[.agg #[.slice A n c,.int .i64 start,.int .i64 caps],.slice T tn tc,.int .i64 a,.bool anchored] w (PkPost w (ansF is start caps text a anchored)):=by
 obtain rfl:is.length=n:=h.len
 obtain rfl:text.length=tn:=ht.len
 have C0:Cells (w.alloc (.cells #[.slice A is.length c,.int .i64 start,.int .i64 caps] 27)) w.heap.size 27 #[.slice A is.length c,.int .i64 start,.int .i64 caps]:=Cells.new _ _ _
 have C1:Cells ((w.alloc (.cells #[.slice A is.length c,.int .i64 start,.int .i64 caps] 27)).alloc (.cells #[.bool false,.slice none 0 0,.int .i64 0,.int .i64 0] 33)) (w.heap.size+1) 33 #[.bool false,.slice none 0 0,.int .i64 0,.int .i64 0]:=by
  have h:=Cells.new (w.alloc (.cells #[.slice A is.length c,.int .i64 start,.int .i64 caps] 27)) 33 #[.bool false,.slice none 0 0,.int .i64 0,.int .i64 0]
  have e:(w.alloc (.cells #[.slice A is.length c,.int .i64 start,.int .i64 caps] 27)).heap.size=w.heap.size+1:=by simp
  rwa [e] at h
 have C0':=C0.alloc (.cells #[.bool false,.slice none 0 0,.int .i64 0,.int .i64 0] 33)
 have hU:=((Upd.refl Nob w).alloc (.cells #[.slice A is.length c,.int .i64 start,.int .i64 caps] 27)).alloc (.cells #[.bool false,.slice none 0 0,.int .i64 0,.int .i64 0] 33)
 have H:=ah h.lower
 have HT:=ah ht.lower
 have h64:=ht.n
 clear h ht C0
 go_enter Try.func11,Try.ntmps11
 go_upto_region 1 with fail
 generalize (w.alloc (.cells #[.slice A is.length c,.int .i64 start,.int .i64 caps] 27)).alloc (.cells #[.bool false,.slice none 0 0,.int .i64 0,.int .i64 0] 33)=w2 at *
 have hpl:=C0'.lt
 have hrl:=C1.lt
 have hU2:=ah hU
 clear hU
 have HC0:=ah C0'
 have HC1:=ah C1
 have e0:w2.cell? ⟨w.heap.size,0,none⟩=some (.slice A is.length c):=C0'.ak rfl
 have e1:w2.cell? ⟨w.heap.size,0+1,none⟩=some (.int .i64 start):=C0'.ak rfl
 have e2:w2.cell? ⟨w.heap.size,0+2,none⟩=some (.int .i64 caps):=C0'.ak rfl
 have r0:w2.cell? ⟨w.heap.size+1,0,none⟩=some (.bool false):=C1.ak rfl
 have r1:w2.cell? ⟨w.heap.size+1,0+1,none⟩=some (.slice none 0 0):=C1.ak rfl
 have r2:w2.cell? ⟨w.heap.size+1,0+2,none⟩=some (.int .i64 0):=C1.ak rfl
 have r3:w2.cell? ⟨w.heap.size+1,0+3,none⟩=some (.int .i64 0):=C1.ak rfl
 have f0:w2.frozen? ⟨w.heap.size+1,0,none⟩=false:=C1.frozen 0
 have f1:w2.frozen? ⟨w.heap.size+1,0+1,none⟩=false:=C1.frozen 1
 have f2:w2.frozen? ⟨w.heap.size+1,0+2,none⟩=false:=C1.frozen 2
 have f3:w2.frozen? ⟨w.heap.size+1,0+3,none⟩=false:=C1.frozen 3
 clear C0' C1
 by_cases hl:4194304 < text.length
 ·have hA:ansF is start caps text a anchored=((none,0),2):=if_pos hl
  have HA:=ah hA
  clear hA
  have hl2:(4194304:Int) < (text.length:Int):=by omega
  have D:=(((HC1.out.aW 0 (.bool false)).aW (0+1) (.slice none 0 0)).aW (0+2) (.int .i64 0)).aW (0+3) (.int .i64 0)
  have g0:=D.ak (i:=0) (v:=.bool false) rfl
  have g1:=D.ak (i:=0+1) (v:=.slice none 0 0) rfl
  have g2:=D.ak (i:=0+2) (v:=.int .i64 0) rfl
  have g3:=D.ak (i:=0+3) (v:=.int .i64 0) rfl
  go_wp2_with fail
  refine bodyPost_ret (by simp[results,Try.results11,go_sem,g0,g1,g2,g3];try rfl) rfl ?_
  rw[HA.out]
  exact⟨none,0,0,rfl,rfl,Nat.zero_le _,World.ownsRow_nil _ _ _ _,((((hU2.out.setCell _ _ (fun h=>absurd h (by simp))).setCell _ _ (fun h=>absurd h (by simp))).setCell _ _ (fun h=>absurd h (by simp))).setCell _ _ (fun h=>absurd h (by simp)))⟩
 have hl2:¬(4194304:Int) < (text.length:Int):=by omega
 go_wp2_with fail
 refine(check_any _ _ A is.length c is start caps (H.out.upd hU2.out (fun _ _=>aj)) hs hc hn).mono ?_
 rintro e w3 ⟨rfl,hU3⟩
 have HCR:=ah (HC1.out.upd hU3 aj)
 have HCP:=ah (HC0.out.upd hU3 aj)
 have HUR:=ah (hU2.out.trans hU3 (fun _ _ h=>h))
 have f0:w3.frozen? ⟨w.heap.size+1,0,none⟩=false:=HCR.out.frozen 0
 have f1:w3.frozen? ⟨w.heap.size+1,0+1,none⟩=false:=HCR.out.frozen 1
 have f2:w3.frozen? ⟨w.heap.size+1,0+2,none⟩=false:=HCR.out.frozen 2
 have f3:w3.frozen? ⟨w.heap.size+1,0+3,none⟩=false:=HCR.out.frozen 3
 have r0:w3.cell? ⟨w.heap.size+1,0,none⟩=some (.bool false):=HCR.out.ak rfl
 have r1:w3.cell? ⟨w.heap.size+1,0+1,none⟩=some (.slice none 0 0):=HCR.out.ak rfl
 have r2:w3.cell? ⟨w.heap.size+1,0+2,none⟩=some (.int .i64 0):=HCR.out.ak rfl
 have r3:w3.cell? ⟨w.heap.size+1,0+3,none⟩=some (.int .i64 0):=HCR.out.ak rfl
 have e0:w3.cell? ⟨w.heap.size,0,none⟩=some (.slice A is.length c):=HCP.out.ak rfl
 have e1:w3.cell? ⟨w.heap.size,0+1,none⟩=some (.int .i64 start):=HCP.out.ak rfl
 have e2:w3.cell? ⟨w.heap.size,0+2,none⟩=some (.int .i64 caps):=HCP.out.ak rfl
 have hle3:=HUR.out.size
 clear hU3
 rcases hv:fu is start caps with _ | _
 ·have hA:ansF is start caps text a anchored=((none,0),90):=(if_neg hl).trans (if_pos hv)
  have HA:=ah hA
  have hE:errOf false=90:=rfl
  clear hA hv
  have D:=(((HCR.out.aW 0 (.bool false)).aW (0+1) (.slice none 0 0)).aW (0+2) (.int .i64 0)).aW (0+3) (.int .i64 0)
  have g0:=D.ak (i:=0) (v:=.bool false) rfl
  have g1:=D.ak (i:=0+1) (v:=.slice none 0 0) rfl
  have g2:=D.ak (i:=0+2) (v:=.int .i64 0) rfl
  have g3:=D.ak (i:=0+3) (v:=.int .i64 0) rfl
  go_wp2_with fail
  refine bodyPost_ret (by simp[results,Try.results11,go_sem,g0,g1,g2,g3];try rfl) rfl ?_
  rw[HA.out]
  exact⟨none,0,0,rfl,rfl,Nat.zero_le _,World.ownsRow_nil _ _ _ _,((((HUR.out.setCell _ _ (fun h=>absurd h (by simp))).setCell _ _ (fun h=>absurd h (by simp))).setCell _ _ (fun h=>absurd h (by simp))).setCell _ _ (fun h=>absurd h (by simp)))⟩
 have hE:errOf true=0:=rfl
 by_cases har:a < 0∨(text.length:Int) < a
 ·have hA:ansF is start caps text a anchored=((none,0),1):=(if_neg hl).trans ((if_neg (by rw[hv];exact Bool.noConfusion)).trans (if_pos har))
  have HA:=ah hA
  clear hA hv
  have D:=(((HCR.out.aW 0 (.bool false)).aW (0+1) (.slice none 0 0)).aW (0+2) (.int .i64 0)).aW (0+3) (.int .i64 0)
  have g0:=D.ak (i:=0) (v:=.bool false) rfl
  have g1:=D.ak (i:=0+1) (v:=.slice none 0 0) rfl
  have g2:=D.ak (i:=0+2) (v:=.int .i64 0) rfl
  have g3:=D.ak (i:=0+3) (v:=.int .i64 0) rfl
  rcases(by omega:a < 0∨(¬a < 0∧(text.length:Int) < a)) with h1 | ⟨h1,h2⟩
  ·have d1:decide (a < 0)=true:=decide_eq_true h1
   clear har
   go_wp2_with fail
   refine bodyPost_ret (by simp[results,Try.results11,go_sem,g0,g1,g2,g3];try rfl) rfl ?_
   rw[HA.out]
   exact⟨none,0,0,rfl,rfl,Nat.zero_le _,World.ownsRow_nil _ _ _ _,((((HUR.out.setCell _ _ (fun h=>absurd h (by simp))).setCell _ _ (fun h=>absurd h (by simp))).setCell _ _ (fun h=>absurd h (by simp))).setCell _ _ (fun h=>absurd h (by simp)))⟩
  ·have d1:decide (a < 0)=false:=decide_eq_false h1
   have d2:decide ((text.length:Int) < a)=true:=decide_eq_true h2
   clear har
   go_wp2_with fail
   refine bodyPost_ret (by simp[results,Try.results11,go_sem,g0,g1,g2,g3];try rfl) rfl ?_
   rw[HA.out]
   exact⟨none,0,0,rfl,rfl,Nat.zero_le _,World.ownsRow_nil _ _ _ _,((((HUR.out.setCell _ _ (fun h=>absurd h (by simp))).setCell _ _ (fun h=>absurd h (by simp))).setCell _ _ (fun h=>absurd h (by simp))).setCell _ _ (fun h=>absurd h (by simp)))⟩
 have hA:ansF is start caps text a anchored=(jv is start.toNat caps.toNat text a.toNat anchored,0):=(if_neg hl).trans ((if_neg (by rw[hv];exact Bool.noConfusion)).trans (if_neg har))
 have HA:=ah hA
 clear hA
 obtain⟨⟨n1,n2,s0,s1,k0,k1⟩,hmay⟩:=vcheck hv
 obtain⟨st,rfl⟩:=Int.eq_ofNat_of_zero_le s0
 obtain⟨m,rfl⟩:∃k:Nat,caps=(k:Int):=Int.eq_ofNat_of_zero_le (by omega)
 obtain⟨a0,rfl⟩:∃k:Nat,a=(k:Int):=Int.eq_ofNat_of_zero_le (by omega)
 have HMAY:=ah hmay
 obtain⟨i0,hi0,hz0,hz1,hz2⟩:=info_parts jG
 have ha0:a0≤text.length:=by omega
 have n2':is.length≤20000:=by omega
 have hst:st < is.length:=by omega
 have d1:decide ((a0:Int) < 0)=false:=decide_eq_false (by omega)
 have d2:decide ((text.length:Int) < (a0:Int))=false:=decide_eq_false (by omega)
 have hsl:∀w':World,Cells w' w.heap.size 27 #[.slice A is.length c,.int .i64 st,.int .i64 m]→(w'.cell? ⟨w.heap.size,0,none⟩=some (.slice A is.length c)∧w'.cell? ⟨w.heap.size,0+1,none⟩=some (.int .i64 (st:Int))∧w'.cell? ⟨w.heap.size,0+2,none⟩=some (.int .i64 (m:Int))) :=
  fun w' hC=>⟨hC.ak rfl,hC.ak rfl,hC.ak rfl⟩
 have HSL:=ah hsl
 clear hmay hv har f0 f1 f2 f3 r0 r1 r2 r3 hsl HC0 HC1 hU2 e0 e1 e2
 go_upto_region 8 with fail
 go_region_held3 (fun w'=>w'.cell? ⟨w.heap.size,0,none⟩=some (.slice A is.length c)∧w'.cell? ⟨w.heap.size,0+1,none⟩=some (.int .i64 (st:Int))∧w'.cell? ⟨w.heap.size,0+2,none⟩=some (.int .i64 (m:Int)))
  (first | exact HSL.out _ HCP.out | exact HSL.out _ HCP4.out | exact HSL.out _ (HCP4.out.alloc _))
  (first
  | (go_at_call 30;refine(setNew_any _ (is.length:Int) (by omega) (by omega)).mono ?_;rintro e w4 ⟨sb,sg,rfl,hg4,hb4,hS4,hU4⟩;have hU4':=((Upd.refl Nob w3).drew).trans hU4 (fun _ _ h=>h);have HCP4:=ah (HCP.out.upd hU4' aj);have HCR4:=ah (HCR.out.upd hU4' aj);have HU4:=ah (HUR.out.trans hU4' (fun _ _ h=>h));have HS4:=ah hS4;clear hU4 hU4' hS4))
 have hbd:bound (is.length:Int)=is.length:=by unfold bound;simp;omega
 rw[hbd] at HS4
 have hb4:=HS4.out.blk.lt
 have hg4l:=(HS4.out.at_.lt sg rfl).2
 have hpl4:=HCP4.out.lt
 have hrl4:=HCR4.out.lt
 have h34:=HU4.out.size
 have CB0:=Cells.new w4 73 #[.slice A is.length c,.int .i64 st,.int .i64 m,.slice T text.length tc,.int .i64 0,.int .i64 0,.pointer (some ⟨sb,0,none⟩),.slice none 0 0,.bool false,.slice none 0 0,.int .i64 0,.int .i64 0,.int .i64 0]
 have CB:=Cells.new w4 73 #[.slice A is.length c,.int .i64 st,.int .i64 m,.slice T text.length tc,.int .i64 (a0:Int),.int .i64 0,.pointer (some ⟨sb,0,none⟩),.slice none 0 0,.bool false,.slice none 0 0,.int .i64 0,.int .i64 0,.int .i64 0]
 have hUb:Upd Nob w4 (w4.alloc (.cells #[.slice A is.length c,.int .i64 st,.int .i64 m,.slice T text.length tc,.int .i64 (a0:Int),.int .i64 0,.pointer (some ⟨sb,0,none⟩),.slice none 0 0,.bool false,.slice none 0 0,.int .i64 0,.int .i64 0,.int .i64 0] 73)):=(Upd.refl Nob w4).alloc _
 have hUw:Upd Nob w (w4.alloc (.cells #[.slice A is.length c,.int .i64 st,.int .i64 m,.slice T text.length tc,.int .i64 (a0:Int),.int .i64 0,.pointer (some ⟨sb,0,none⟩),.slice none 0 0,.bool false,.slice none 0 0,.int .i64 0,.int .i64 0,.int .i64 0] 73)):=HU4.out.trans hUb (fun _ _ h=>h)
 have c4:(w4.alloc (.cells #[.slice A is.length c,.int .i64 st,.int .i64 m,.slice T text.length tc,.int .i64 0,.int .i64 0,.pointer (some ⟨sb,0,none⟩),.slice none 0 0,.bool false,.slice none 0 0,.int .i64 0,.int .i64 0,.int .i64 0] 73)).cell? ⟨w4.heap.size,0+4,none⟩=some (.int .i64 0):=CB0.ak rfl
 have f4:(w4.alloc (.cells #[.slice A is.length c,.int .i64 st,.int .i64 m,.slice T text.length tc,.int .i64 0,.int .i64 0,.pointer (some ⟨sb,0,none⟩),.slice none 0 0,.bool false,.slice none 0 0,.int .i64 0,.int .i64 0,.int .i64 0] 73)).frozen? ⟨w4.heap.size,0+4,none⟩=false:=CB0.frozen 4
 have HL:=ah (⟨hUw,HCP4.out.upd hUb aj,HCR4.out.upd hUb aj,
  ⟨H.out.upd hUw (fun _ _=>aj),HT.out.upd hUw (fun _ _=>aj),h34,hUw.size,⟨none,0,_,[],(HS4.out.rebase (show w.heap.size≤w3.drew.heap.size from hle3)).upd hUb aj aj (fun _ _=>aj),rfl⟩,
   ⟨_,_,none,0,0,0,CB,.inl ⟨rfl,rfl,rfl⟩⟩,⟨[],.nil_,rfl,fun i pc caps hi=>by simp at hi⟩,fun h=>absurd h (by simp)⟩⟩ :
  PkL w (w4.alloc (.cells #[.slice A is.length c,.int .i64 st,.int .i64 m,.slice T text.length tc,.int .i64 (a0:Int),.int .i64 0,.pointer (some ⟨sb,0,none⟩),.slice none 0 0,.bool false,.slice none 0 0,.int .i64 0,.int .i64 0,.int .i64 0] 73)) w4.heap.size sb sg none A c is st m T tc text a0 none 0 none [])
 have hans:bM is st (List.replicate m (-1)) text a0 anchored (text.length+1 - a0) a0 [] none 0=jv is st m text a0 anchored:=rfl
 have HS:=ah hans
 clear CB CB0 hUb hUw hans
 go_upto_region 11 with fail
 generalize (w4.alloc (.cells #[.slice A is.length c,.int .i64 st,.int .i64 m,.slice T text.length tc,.int .i64 (a0:Int),.int .i64 0,.pointer (some ⟨sb,0,none⟩),.slice none 0 0,.bool false,.slice none 0 0,.int .i64 0,.int .i64 0,.int .i64 0] 73))=w5 at *
 clear c4 f4
 generalize w4.heap.size=b at *
 go_loopg [12] (text.length+1 - a0) (fun gk v12 wq=>∃(j:Nat) (ths:List (Nat × List Int)) (fo:Option (List Int × Int)) (steps:Nat) (N:Option Addr) (nc:Nat) (O:Option Nat),j+gk=text.length+1∧a0≤j∧v12=.slice N ths.length nc∧ths.length≤20000∧steps≤(j - a0)*20000 ∧
  bM is st (List.replicate m (-1)) text a0 anchored gk j ths fo steps=jv is st m text a0 anchored∧PkL w wq b sb sg O A c is st m T tc text j fo steps N ths)
 case atStart=>exact⟨a0,[],none,0,none,0,none,by omega,Nat.le_refl _,rfl,by simp,by omega,HS.out,HL.out⟩
 case round =>
  obtain⟨j,ths,fo,steps,N,nc,O,hj,haj,rfl,hthl,hstp,hse,hL⟩:=hrel
  obtain⟨bits,nv,FA,fn,fc,wh,hC,-⟩:=hL.pk.run
  have l4:wr.cell? ⟨b,0+4,none⟩=some (.int .i64 (j:Int)):=hC.ak rfl
  by_cases hlt:j≤text.length
  rotate_left
  ·have g1:¬(j:Int)≤(text.length:Int):=by omega
   obtain rfl:gk=0:=by omega
   obtain⟨fo',hfo'⟩:∃x,x=fo:=⟨_,rfl⟩
   obtain⟨steps',hst'⟩:∃x,x=steps:=⟨_,rfl⟩
   have HRR:=ah (show jv is st m text a0 anchored=(fo',steps') by rw[hfo',hst'];exact hse.symm)
   have HF:=ah (show PkFin w wr b sg m fo' steps' by rw[hfo',hst'];exact hL.fin)
   clear hL hC hse HS HL hfo' hst'
   obtain⟨v0,v1,v2,v3,v4,v5,v6,v7,FA,fn,fc,OF,hCf,hFf⟩:=HF.out.run
   obtain⟨hrd,hfm,-,rfl⟩:=hFf.reads
   have HA2:=ah (HA.out.trans (show _=((fo',steps'),(0:Int)) by show(jv is st m text a0 _,(0:Int))=_;rw[HRR.out]))
   have b8:wr.cell? ⟨b,0+8,none⟩=some (.bool fo'.isSome):=hCf.ak rfl
   have b9:wr.cell? ⟨b,0+8+1,none⟩=some (.slice FA (aC fo').length fc):=hCf.ak rfl
   have b10:wr.cell? ⟨b,0+8+2,none⟩=some (.int .i64 (fU fo')):=hCf.ak rfl
   have b11:wr.cell? ⟨b,0+8+3,none⟩=some (.int .i64 0):=hCf.ak rfl
   have CO0:=Cells.new wr 33 #[.bool fo'.isSome,.slice FA (aC fo').length fc,.int .i64 (fU fo'),.int .i64 0]
   have hUo0:=(Upd.refl Nob wr).alloc (.cells #[.bool fo'.isSome,.slice FA (aC fo').length fc,.int .i64 (fU fo'),.int .i64 0] 33)
   have b12:(wr.alloc (.cells #[.bool fo'.isSome,.slice FA (aC fo').length fc,.int .i64 (fU fo'),.int .i64 0] 33)).cell? ⟨b,0+12,none⟩=some (.int .i64 (steps':Int)):=(hCf.upd hUo0 aj).ak rfl
   have CO:=Cells.new wr 33 #[.bool fo'.isSome,.slice FA (aC fo').length fc,.int .i64 (fU fo'),.int .i64 (steps':Int)]
   have hUo:=(Upd.refl Nob wr).alloc (.cells #[.bool fo'.isSome,.slice FA (aC fo').length fc,.int .i64 (fU fo'),.int .i64 (steps':Int)] 33)
   have hrl:=HF.out.res.lt
   have HRD:=ah (hrd.upd hUo (fun _ _=>aj))
   have HCR9:=ah (HF.out.res.upd hUo aj)
   have HU9:=ah (HF.out.upd.trans hUo (fun _ _ h=>h))
   have HCO:=ah CO
   have hfin:=HF.out.upd.size
   clear hCf hFf hrd CO CO0 hUo hUo0
   go_upto_region 17 with fail
   generalize wr.alloc (.cells #[.bool fo'.isSome,.slice FA (aC fo').length fc,.int .i64 (fU fo'),.int .i64 (steps':Int)] 33)=w9 at *
   have hob:w.heap.size≤wr.heap.size:=hfin
   generalize wr.heap.size=ob at *
   have o1:w9.cell? ⟨ob,0+1,none⟩=some (.slice FA (aC fo').length fc):=HCO.out.ak rfl
   have hm1002:(aC fo').length≤1002:=by omega
   go_wp2_with (at_builtin;refine dS rfl _ (.tmp 105) 28 rfl w.heap.size 3 i0 (.int .i64 0) 1 8 Try.underlying28 hi0 hz0 hz1 hz2 rfl (by decide) (.slice none 0 0) 0 [] rfl (World.ownsRow_nil _ _ _ _) _ FA (aC fo').length fc (bn (aC fo')) rfl HRD.out (intv_one (aC fo')) (by unfold maxLen;omega) (by omega) HU9.out.size ?_;intro v7 w7 o7 g7 a7;simp only[Nat.zero_add,List.nil_append] at o7;obtain⟨A7,c7,rfl⟩:=dG o7;have hCO7:=HCO.out.grown g7 (by simp[Value.ownBlock]);have hCR7:=HCR9.out.grown g7 (by simp[Value.ownBlock]);have HU7:=ah (HU9.out.grown g7 (fun k hk h=>by simp[Value.ownBlock] at hk));have HO7:=ah o7;have fo1:w7.frozen? ⟨ob,0+1,none⟩=false:=hCO7.frozen 1;have co1:w7.cell? ⟨ob,0+1,none⟩=some (.slice FA (aC fo').length fc):=hCO7.ak rfl;have HCO7:=ah hCO7;have HCR7:=ah hCR7;have hCO8:=hCO7.aW (0+1) (.slice A7 (aC fo').length c7);have hCR8:=hCR7.far ⟨ob,0+1,none⟩ (.slice A7 (aC fo').length c7) (by show w.heap.size+1≠ob;omega);have p0:(w7.setCell ⟨ob,0+1,none⟩ (.slice A7 (aC fo').length c7)).cell? ⟨ob,0,none⟩=some (.bool fo'.isSome):=hCO8.ak rfl;have p1:(w7.setCell ⟨ob,0+1,none⟩ (.slice A7 (aC fo').length c7)).cell? ⟨ob,0+1,none⟩=some (.slice A7 (aC fo').length c7):=hCO8.ak rfl;have p2:(w7.setCell ⟨ob,0+1,none⟩ (.slice A7 (aC fo').length c7)).cell? ⟨ob,0+2,none⟩=some (.int .i64 (fU fo')):=hCO8.ak rfl;have p3:(w7.setCell ⟨ob,0+1,none⟩ (.slice A7 (aC fo').length c7)).cell? ⟨ob,0+3,none⟩=some (.int .i64 (steps':Int)):=hCO8.ak rfl;have f0:(w7.setCell ⟨ob,0+1,none⟩ (.slice A7 (aC fo').length c7)).frozen? ⟨w.heap.size+1,0,none⟩=false:=hCR8.frozen 0;have f1:(w7.setCell ⟨ob,0+1,none⟩ (.slice A7 (aC fo').length c7)).frozen? ⟨w.heap.size+1,0+1,none⟩=false:=hCR8.frozen 1;have f2:(w7.setCell ⟨ob,0+1,none⟩ (.slice A7 (aC fo').length c7)).frozen? ⟨w.heap.size+1,0+2,none⟩=false:=hCR8.frozen 2;have f3:(w7.setCell ⟨ob,0+1,none⟩ (.slice A7 (aC fo').length c7)).frozen? ⟨w.heap.size+1,0+3,none⟩=false:=hCR8.frozen 3;have r0:(w7.setCell ⟨ob,0+1,none⟩ (.slice A7 (aC fo').length c7)).cell? ⟨w.heap.size+1,0,none⟩=some (.bool false):=hCR8.ak rfl;have r1:(w7.setCell ⟨ob,0+1,none⟩ (.slice A7 (aC fo').length c7)).cell? ⟨w.heap.size+1,0+1,none⟩=some (.slice none 0 0):=hCR8.ak rfl;have r2:(w7.setCell ⟨ob,0+1,none⟩ (.slice A7 (aC fo').length c7)).cell? ⟨w.heap.size+1,0+2,none⟩=some (.int .i64 0):=hCR8.ak rfl;have r3:(w7.setCell ⟨ob,0+1,none⟩ (.slice A7 (aC fo').length c7)).cell? ⟨w.heap.size+1,0+3,none⟩=some (.int .i64 0):=hCR8.ak rfl;have D:=(((hCR8.aW 0 (.bool fo'.isSome)).aW (0+1) (.slice A7 (aC fo').length c7)).aW (0+2) (.int .i64 (fU fo'))).aW (0+3) (.int .i64 (steps':Int));have q0:=D.ak (i:=0) (v:=.bool fo'.isSome) rfl;have q1:=D.ak (i:=0+1) (v:=(.slice A7 (aC fo').length c7)) rfl;have q2:=D.ak (i:=0+2) (v:=.int .i64 (fU fo')) rfl;have q3:=D.ak (i:=0+3) (v:=.int .i64 (steps':Int)) rfl;clear o7 g7 a7 hCO7 hCR7 hCO8 hCR8 D)
   try simp only[Exit.inBlock,Exit.then]
   refine bodyPost_ret (by simp[results,Try.results11,go_sem,q0,q1,q2,q3];try rfl) rfl ?_
   rw[HA2.out]
   have hno:(Value.slice A7 (aC fo').length c7).ownBlock≠some ob:=own_ne HO7.out HCO7.out (by decide)
   have hnr:(Value.slice A7 (aC fo').length c7).ownBlock≠some (w.heap.size+1):=own_ne HO7.out HCR7.out (by decide)
   exact⟨A7,(aC fo').length,c7,rfl,rfl,hm1002,bN (bN (bN (bN (bN HO7.out _ _ hno) _ _ hnr) _ _ hnr) _ _ hnr) _ _ hnr,(((((HU7.out.setCell _ _ (fun h=>absurd h (by show ¬ob < w.heap.size;omega))).setCell _ _ (fun h=>absurd h (by simp))).setCell _ _ (fun h=>absurd h (by simp))).setCell _ _ (fun h=>absurd h (by simp))).setCell _ _ (fun h=>absurd h (by simp)))⟩
  have g1:(j:Int)≤(text.length:Int):=by omega
  obtain⟨fz,rfl⟩:∃fz,gk=fz+1:=⟨gk - 1,by omega⟩
  have hbne:w.heap.size≤b:=hL.pk.eb
  generalize hbg:(decide (j=a0) || !anchored && fo.isNone)=bg
  obtain⟨s9,hs9⟩:∃x:VSt,x=iP is st (List.replicate m (-1)) text j bg ths fo steps:=⟨_,rfl⟩
  have hwk:=placeF_work (is:=is) (text:=text) (j:=j) st (List.replicate m (-1)) bg ths fo steps
  rw[←hs9] at hwk
  have hstep:=pkstep_any wr w.heap.size b sb sg O A c is st m T tc text j fo steps N nc ths bg hL.pk (by omega) n2' hst (by omega) (by omega) (by omega) hthl HMAY.out
  rw[←dX,←hs9] at hstep
  have HSTEP:=ah hstep
  have HPL:=ah (show iP is st (List.replicate m (-1)) text j (decide (j=a0) || !anchored && fo.isNone) ths fo steps=s9 by rw[hbg];exact hs9.symm)
  have HSE:=ah hse
  have HLr:=ah hL
  have HCr:=ah hC
  have b8:wr.cell? ⟨b,0+8,none⟩=some (.bool fo.isSome):=hC.ak rfl
  clear hstep hs9 hse hL hC HS HL
  go_upto_region 13 with fail
  go_cut [12] from 59 to 81 (fun v12 wc=>StepPost wr w.heap.size b sb sg O A c is st m T tc text j s9 (.returned v12) wc)
  case first =>
   have HBG:=ah hbg
   clear hbg
   by_cases hja:j=a0
   ·have hb1:bg=true:=by rw[←HBG.out,decide_eq_true hja];rfl
    subst hb1
    subst hja
    go_wp2_with fail
    refine HSTEP.out.mono ?_
    rintro e w9 ⟨O9,NO9,N9,nc9,xs9,FA9,fn9,fc9,wh9,rfl,hrest⟩
    have HREST:=ah hrest
    clear hrest
    go_wp2_with fail
    go_meet
    exact⟨O9,NO9,N9,nc9,xs9,FA9,fn9,fc9,wh9,rfl,HREST.out⟩
   ·have q1:¬(j:Int)=(a0:Int):=by omega
    have q2:((j:Int)==(a0:Int))=false:=beq_eq_false_iff_ne.2 q1
    have hb0:(!anchored && fo.isNone)=bg:=by rw[←HBG.out,decide_eq_false hja];rfl
    rcases anchored with _ | _
    ·rcases hfo:fo.isSome with _ | _
     ·have hb1:bg=true:=by rw[←hb0];cases fo;rfl;cases hfo
      subst hb1
      rw[hfo] at b8
      clear hb0 hfo
      go_wp2_with fail
      refine HSTEP.out.mono ?_
      rintro e w9 ⟨O9,NO9,N9,nc9,xs9,FA9,fn9,fc9,wh9,rfl,hrest⟩
      have HREST:=ah hrest
      clear hrest
      go_wp2_with fail
      go_meet
      exact⟨O9,NO9,N9,nc9,xs9,FA9,fn9,fc9,wh9,rfl,HREST.out⟩
     ·have hb1:bg=false:=by rw[←hb0];cases fo;cases hfo;rfl
      subst hb1
      rw[hfo] at b8
      clear hb0 hfo
      go_wp2_with fail
      refine HSTEP.out.mono ?_
      rintro e w9 ⟨O9,NO9,N9,nc9,xs9,FA9,fn9,fc9,wh9,rfl,hrest⟩
      have HREST:=ah hrest
      clear hrest
      go_wp2_with fail
      go_meet
      exact⟨O9,NO9,N9,nc9,xs9,FA9,fn9,fc9,wh9,rfl,HREST.out⟩
    ·have hb1:bg=false:=by rw[←hb0];rfl
     subst hb1
     clear hb0
     go_wp2_with fail
     refine HSTEP.out.mono ?_
     rintro e w9 ⟨O9,NO9,N9,nc9,xs9,FA9,fn9,fc9,wh9,rfl,hrest⟩
     have HREST:=ah hrest
     clear hrest
     go_wp2_with fail
     go_meet
     exact⟨O9,NO9,N9,nc9,xs9,FA9,fn9,fc9,wh9,rfl,HREST.out⟩
  case rest =>
   obtain⟨O9,NO9,N9,nc9,xs9,FA9,fn9,fc9,wh9,he,hPK9,hUP9,hC9,hN9,hT9,hF9⟩:=hcut
   injection he with he
   subst he
   obtain⟨hUw9,hBx9,hRs9⟩:=HLr.out.step hUP9
   have m4:wr.cell? ⟨b,0+4,none⟩=some (.int .i64 (j:Int)):=l4
   have l4:wc.cell? ⟨b,0+4,none⟩=some (.int .i64 (j:Int)):=hC9.ak rfl
   have f4:wc.frozen? ⟨b,0+4,none⟩=false:=hC9.frozen 4
   have b8:wc.cell? ⟨b,0+8,none⟩=some (.bool s9.found.isSome):=hC9.ak rfl
   obtain⟨-,-,hwh,-⟩:=hF9.reads
   subst hwh
   have HF:=ah (⟨hUw9,hRs9,⟨_,_,_,_,_,_,_,_,FA9,fn9,fc9,O9,hC9,hF9⟩⟩:PkFin w wc b sg m s9.found s9.steps)
   have hpbne:w.heap.size≠b:=Cells.ne_ hBx9 hC9 (by decide)
   have hrbne:w.heap.size+1≠b:=Cells.ne_ hRs9 hC9 (by decide)
   have HNX:=ah (⟨hUw9.setCell _ _ (fun hlt=>absurd hlt (by show ¬b < w.heap.size;omega)),hBx9.far _ _ hpbne,hRs9.far _ _ hrbne,PkI.next hPK9 hC9 hN9 hT9 hF9⟩ :
    PkL w (wc.setCell ⟨b,0+4,none⟩ (.int .i64 ((j:Int)+1))) b sb sg O9 A c is st m T tc text (j+1) s9.found s9.steps N9 s9.next)
   have hnl:=hwk.2
   have hsl:=hwk.1
   clear hUw9 hBx9 hRs9 hC9 hN9 hT9 hF9 hPK9 hUP9 hwk m4
   by_cases hz:s9.next.length=0
   rotate_left
   ·have hze1:((s9.next.length:Int)==0)=false:=beq_eq_false_iff_ne.2 (fun h=>hz (by omega))
    have hze2:¬(s9.next.length:Int)=0:=by omega
    go_wp2_with fail
    go_roundg fz
    case measure=>omega
    case rel =>
     refine⟨j+1,s9.next,s9.found,s9.steps,N9,nc9,O9,by omega,by omega,rfl,by omega,by omega,?_,HNX.out⟩
     rw[←HSE.out]
     refine(search_on HPL.out ?_).symm
     rw[Bool.and_eq_false_iff]
     exact .inl (by rw[Bool.eq_false_iff];intro h;exact hz (by rw[List.isEmpty_iff.1 h];rfl))
   have hze1:((s9.next.length:Int)==0)=true:=by rw[hz];rfl
   rcases hfa:(s9.found.isSome || anchored) with _ | _
   ·rw[Bool.or_eq_false_iff] at hfa
    obtain⟨hf1,rfl⟩:=hfa
    rw[hf1] at b8
    go_wp2_with fail
    go_roundg fz
    case measure=>omega
    case rel =>
     refine⟨j+1,s9.next,s9.found,s9.steps,N9,nc9,O9,by omega,by omega,by rw[hz],by omega,by omega,?_,HNX.out⟩
     rw[←HSE.out]
     refine(search_on HPL.out ?_).symm
     rw[hf1]
     simp
   have HRR:=ah ((HSE.out.symm).trans (search_stop HPL.out hz hfa))
   obtain⟨fo',hfo'⟩:∃x,x=s9.found:=⟨_,rfl⟩
   obtain⟨steps',hst'⟩:∃x,x=s9.steps:=⟨_,rfl⟩
   rw[←hfo',←hst'] at HRR HF
   have hor:(fo'.isSome || anchored)=true:=by rw[hfo'];exact hfa
   rw[←hfo'] at b8
   clear HNX hfo' hst' hfa HSE HPL HLr HCr HSTEP
   rcases hsf:fo'.isSome with _ | _
   ·obtain rfl:anchored=true:=by rw[hsf] at hor;exact hor
    rw[hsf] at b8
    clear hor
    go_upto_region 15 with fail
    clear b8 hsf
    obtain⟨v0,v1,v2,v3,v4,v5,v6,v7,FA,fn,fc,OF,hCf,hFf⟩:=HF.out.run
    obtain⟨hrd,hfm,-,rfl⟩:=hFf.reads
    have HA2:=ah (HA.out.trans (show _=((fo',steps'),(0:Int)) by show(jv is st m text a0 _,(0:Int))=_;rw[HRR.out]))
    have b8:wc.cell? ⟨b,0+8,none⟩=some (.bool fo'.isSome):=hCf.ak rfl
    have b9:wc.cell? ⟨b,0+8+1,none⟩=some (.slice FA (aC fo').length fc):=hCf.ak rfl
    have b10:wc.cell? ⟨b,0+8+2,none⟩=some (.int .i64 (fU fo')):=hCf.ak rfl
    have b11:wc.cell? ⟨b,0+8+3,none⟩=some (.int .i64 0):=hCf.ak rfl
    have CO0:=Cells.new wc 33 #[.bool fo'.isSome,.slice FA (aC fo').length fc,.int .i64 (fU fo'),.int .i64 0]
    have hUo0:=(Upd.refl Nob wc).alloc (.cells #[.bool fo'.isSome,.slice FA (aC fo').length fc,.int .i64 (fU fo'),.int .i64 0] 33)
    have b12:(wc.alloc (.cells #[.bool fo'.isSome,.slice FA (aC fo').length fc,.int .i64 (fU fo'),.int .i64 0] 33)).cell? ⟨b,0+12,none⟩=some (.int .i64 (steps':Int)):=(hCf.upd hUo0 aj).ak rfl
    have CO:=Cells.new wc 33 #[.bool fo'.isSome,.slice FA (aC fo').length fc,.int .i64 (fU fo'),.int .i64 (steps':Int)]
    have hUo:=(Upd.refl Nob wc).alloc (.cells #[.bool fo'.isSome,.slice FA (aC fo').length fc,.int .i64 (fU fo'),.int .i64 (steps':Int)] 33)
    have hrl:=HF.out.res.lt
    have HRD:=ah (hrd.upd hUo (fun _ _=>aj))
    have HCR9:=ah (HF.out.res.upd hUo aj)
    have HU9:=ah (HF.out.upd.trans hUo (fun _ _ h=>h))
    have HCO:=ah CO
    have hfin:=HF.out.upd.size
    clear hCf hFf hrd CO CO0 hUo hUo0
    go_upto_region 17 with fail
    generalize wc.alloc (.cells #[.bool fo'.isSome,.slice FA (aC fo').length fc,.int .i64 (fU fo'),.int .i64 (steps':Int)] 33)=w9 at *
    have hob:w.heap.size≤wc.heap.size:=hfin
    generalize wc.heap.size=ob at *
    have o1:w9.cell? ⟨ob,0+1,none⟩=some (.slice FA (aC fo').length fc):=HCO.out.ak rfl
    have hm1002:(aC fo').length≤1002:=by omega
    go_wp2_with (at_builtin;refine dS rfl _ (.tmp 105) 28 rfl w.heap.size 3 i0 (.int .i64 0) 1 8 Try.underlying28 hi0 hz0 hz1 hz2 rfl (by decide) (.slice none 0 0) 0 [] rfl (World.ownsRow_nil _ _ _ _) _ FA (aC fo').length fc (bn (aC fo')) rfl HRD.out (intv_one (aC fo')) (by unfold maxLen;omega) (by omega) HU9.out.size ?_;intro v7 w7 o7 g7 a7;simp only[Nat.zero_add,List.nil_append] at o7;obtain⟨A7,c7,rfl⟩:=dG o7;have hCO7:=HCO.out.grown g7 (by simp[Value.ownBlock]);have hCR7:=HCR9.out.grown g7 (by simp[Value.ownBlock]);have HU7:=ah (HU9.out.grown g7 (fun k hk h=>by simp[Value.ownBlock] at hk));have HO7:=ah o7;have fo1:w7.frozen? ⟨ob,0+1,none⟩=false:=hCO7.frozen 1;have co1:w7.cell? ⟨ob,0+1,none⟩=some (.slice FA (aC fo').length fc):=hCO7.ak rfl;have HCO7:=ah hCO7;have HCR7:=ah hCR7;have hCO8:=hCO7.aW (0+1) (.slice A7 (aC fo').length c7);have hCR8:=hCR7.far ⟨ob,0+1,none⟩ (.slice A7 (aC fo').length c7) (by show w.heap.size+1≠ob;omega);have p0:(w7.setCell ⟨ob,0+1,none⟩ (.slice A7 (aC fo').length c7)).cell? ⟨ob,0,none⟩=some (.bool fo'.isSome):=hCO8.ak rfl;have p1:(w7.setCell ⟨ob,0+1,none⟩ (.slice A7 (aC fo').length c7)).cell? ⟨ob,0+1,none⟩=some (.slice A7 (aC fo').length c7):=hCO8.ak rfl;have p2:(w7.setCell ⟨ob,0+1,none⟩ (.slice A7 (aC fo').length c7)).cell? ⟨ob,0+2,none⟩=some (.int .i64 (fU fo')):=hCO8.ak rfl;have p3:(w7.setCell ⟨ob,0+1,none⟩ (.slice A7 (aC fo').length c7)).cell? ⟨ob,0+3,none⟩=some (.int .i64 (steps':Int)):=hCO8.ak rfl;have f0:(w7.setCell ⟨ob,0+1,none⟩ (.slice A7 (aC fo').length c7)).frozen? ⟨w.heap.size+1,0,none⟩=false:=hCR8.frozen 0;have f1:(w7.setCell ⟨ob,0+1,none⟩ (.slice A7 (aC fo').length c7)).frozen? ⟨w.heap.size+1,0+1,none⟩=false:=hCR8.frozen 1;have f2:(w7.setCell ⟨ob,0+1,none⟩ (.slice A7 (aC fo').length c7)).frozen? ⟨w.heap.size+1,0+2,none⟩=false:=hCR8.frozen 2;have f3:(w7.setCell ⟨ob,0+1,none⟩ (.slice A7 (aC fo').length c7)).frozen? ⟨w.heap.size+1,0+3,none⟩=false:=hCR8.frozen 3;have r0:(w7.setCell ⟨ob,0+1,none⟩ (.slice A7 (aC fo').length c7)).cell? ⟨w.heap.size+1,0,none⟩=some (.bool false):=hCR8.ak rfl;have r1:(w7.setCell ⟨ob,0+1,none⟩ (.slice A7 (aC fo').length c7)).cell? ⟨w.heap.size+1,0+1,none⟩=some (.slice none 0 0):=hCR8.ak rfl;have r2:(w7.setCell ⟨ob,0+1,none⟩ (.slice A7 (aC fo').length c7)).cell? ⟨w.heap.size+1,0+2,none⟩=some (.int .i64 0):=hCR8.ak rfl;have r3:(w7.setCell ⟨ob,0+1,none⟩ (.slice A7 (aC fo').length c7)).cell? ⟨w.heap.size+1,0+3,none⟩=some (.int .i64 0):=hCR8.ak rfl;have D:=(((hCR8.aW 0 (.bool fo'.isSome)).aW (0+1) (.slice A7 (aC fo').length c7)).aW (0+2) (.int .i64 (fU fo'))).aW (0+3) (.int .i64 (steps':Int));have q0:=D.ak (i:=0) (v:=.bool fo'.isSome) rfl;have q1:=D.ak (i:=0+1) (v:=(.slice A7 (aC fo').length c7)) rfl;have q2:=D.ak (i:=0+2) (v:=.int .i64 (fU fo')) rfl;have q3:=D.ak (i:=0+3) (v:=.int .i64 (steps':Int)) rfl;clear o7 g7 a7 hCO7 hCR7 hCO8 hCR8 D)
    try simp only[Exit.inBlock,Exit.then]
    refine bodyPost_ret (by simp[results,Try.results11,go_sem,q0,q1,q2,q3];try rfl) rfl ?_
    rw[HA2.out]
    have hno:(Value.slice A7 (aC fo').length c7).ownBlock≠some ob:=own_ne HO7.out HCO7.out (by decide)
    have hnr:(Value.slice A7 (aC fo').length c7).ownBlock≠some (w.heap.size+1):=own_ne HO7.out HCR7.out (by decide)
    exact⟨A7,(aC fo').length,c7,rfl,rfl,hm1002,bN (bN (bN (bN (bN HO7.out _ _ hno) _ _ hnr) _ _ hnr) _ _ hnr) _ _ hnr,(((((HU7.out.setCell _ _ (fun h=>absurd h (by show ¬ob < w.heap.size;omega))).setCell _ _ (fun h=>absurd h (by simp))).setCell _ _ (fun h=>absurd h (by simp))).setCell _ _ (fun h=>absurd h (by simp))).setCell _ _ (fun h=>absurd h (by simp)))⟩
   ·rw[hsf] at b8
    clear hor
    go_upto_region 15 with fail
    clear b8 hsf
    obtain⟨v0,v1,v2,v3,v4,v5,v6,v7,FA,fn,fc,OF,hCf,hFf⟩:=HF.out.run
    obtain⟨hrd,hfm,-,rfl⟩:=hFf.reads
    have HA2:=ah (HA.out.trans (show _=((fo',steps'),(0:Int)) by show(jv is st m text a0 _,(0:Int))=_;rw[HRR.out]))
    have b8:wc.cell? ⟨b,0+8,none⟩=some (.bool fo'.isSome):=hCf.ak rfl
    have b9:wc.cell? ⟨b,0+8+1,none⟩=some (.slice FA (aC fo').length fc):=hCf.ak rfl
    have b10:wc.cell? ⟨b,0+8+2,none⟩=some (.int .i64 (fU fo')):=hCf.ak rfl
    have b11:wc.cell? ⟨b,0+8+3,none⟩=some (.int .i64 0):=hCf.ak rfl
    have CO0:=Cells.new wc 33 #[.bool fo'.isSome,.slice FA (aC fo').length fc,.int .i64 (fU fo'),.int .i64 0]
    have hUo0:=(Upd.refl Nob wc).alloc (.cells #[.bool fo'.isSome,.slice FA (aC fo').length fc,.int .i64 (fU fo'),.int .i64 0] 33)
    have b12:(wc.alloc (.cells #[.bool fo'.isSome,.slice FA (aC fo').length fc,.int .i64 (fU fo'),.int .i64 0] 33)).cell? ⟨b,0+12,none⟩=some (.int .i64 (steps':Int)):=(hCf.upd hUo0 aj).ak rfl
    have CO:=Cells.new wc 33 #[.bool fo'.isSome,.slice FA (aC fo').length fc,.int .i64 (fU fo'),.int .i64 (steps':Int)]
    have hUo:=(Upd.refl Nob wc).alloc (.cells #[.bool fo'.isSome,.slice FA (aC fo').length fc,.int .i64 (fU fo'),.int .i64 (steps':Int)] 33)
    have hrl:=HF.out.res.lt
    have HRD:=ah (hrd.upd hUo (fun _ _=>aj))
    have HCR9:=ah (HF.out.res.upd hUo aj)
    have HU9:=ah (HF.out.upd.trans hUo (fun _ _ h=>h))
    have HCO:=ah CO
    have hfin:=HF.out.upd.size
    clear hCf hFf hrd CO CO0 hUo hUo0
    go_upto_region 17 with fail
    generalize wc.alloc (.cells #[.bool fo'.isSome,.slice FA (aC fo').length fc,.int .i64 (fU fo'),.int .i64 (steps':Int)] 33)=w9 at *
    have hob:w.heap.size≤wc.heap.size:=hfin
    generalize wc.heap.size=ob at *
    have o1:w9.cell? ⟨ob,0+1,none⟩=some (.slice FA (aC fo').length fc):=HCO.out.ak rfl
    have hm1002:(aC fo').length≤1002:=by omega
    go_wp2_with (at_builtin;refine dS rfl _ (.tmp 105) 28 rfl w.heap.size 3 i0 (.int .i64 0) 1 8 Try.underlying28 hi0 hz0 hz1 hz2 rfl (by decide) (.slice none 0 0) 0 [] rfl (World.ownsRow_nil _ _ _ _) _ FA (aC fo').length fc (bn (aC fo')) rfl HRD.out (intv_one (aC fo')) (by unfold maxLen;omega) (by omega) HU9.out.size ?_;intro v7 w7 o7 g7 a7;simp only[Nat.zero_add,List.nil_append] at o7;obtain⟨A7,c7,rfl⟩:=dG o7;have hCO7:=HCO.out.grown g7 (by simp[Value.ownBlock]);have hCR7:=HCR9.out.grown g7 (by simp[Value.ownBlock]);have HU7:=ah (HU9.out.grown g7 (fun k hk h=>by simp[Value.ownBlock] at hk));have HO7:=ah o7;have fo1:w7.frozen? ⟨ob,0+1,none⟩=false:=hCO7.frozen 1;have co1:w7.cell? ⟨ob,0+1,none⟩=some (.slice FA (aC fo').length fc):=hCO7.ak rfl;have HCO7:=ah hCO7;have HCR7:=ah hCR7;have hCO8:=hCO7.aW (0+1) (.slice A7 (aC fo').length c7);have hCR8:=hCR7.far ⟨ob,0+1,none⟩ (.slice A7 (aC fo').length c7) (by show w.heap.size+1≠ob;omega);have p0:(w7.setCell ⟨ob,0+1,none⟩ (.slice A7 (aC fo').length c7)).cell? ⟨ob,0,none⟩=some (.bool fo'.isSome):=hCO8.ak rfl;have p1:(w7.setCell ⟨ob,0+1,none⟩ (.slice A7 (aC fo').length c7)).cell? ⟨ob,0+1,none⟩=some (.slice A7 (aC fo').length c7):=hCO8.ak rfl;have p2:(w7.setCell ⟨ob,0+1,none⟩ (.slice A7 (aC fo').length c7)).cell? ⟨ob,0+2,none⟩=some (.int .i64 (fU fo')):=hCO8.ak rfl;have p3:(w7.setCell ⟨ob,0+1,none⟩ (.slice A7 (aC fo').length c7)).cell? ⟨ob,0+3,none⟩=some (.int .i64 (steps':Int)):=hCO8.ak rfl;have f0:(w7.setCell ⟨ob,0+1,none⟩ (.slice A7 (aC fo').length c7)).frozen? ⟨w.heap.size+1,0,none⟩=false:=hCR8.frozen 0;have f1:(w7.setCell ⟨ob,0+1,none⟩ (.slice A7 (aC fo').length c7)).frozen? ⟨w.heap.size+1,0+1,none⟩=false:=hCR8.frozen 1;have f2:(w7.setCell ⟨ob,0+1,none⟩ (.slice A7 (aC fo').length c7)).frozen? ⟨w.heap.size+1,0+2,none⟩=false:=hCR8.frozen 2;have f3:(w7.setCell ⟨ob,0+1,none⟩ (.slice A7 (aC fo').length c7)).frozen? ⟨w.heap.size+1,0+3,none⟩=false:=hCR8.frozen 3;have r0:(w7.setCell ⟨ob,0+1,none⟩ (.slice A7 (aC fo').length c7)).cell? ⟨w.heap.size+1,0,none⟩=some (.bool false):=hCR8.ak rfl;have r1:(w7.setCell ⟨ob,0+1,none⟩ (.slice A7 (aC fo').length c7)).cell? ⟨w.heap.size+1,0+1,none⟩=some (.slice none 0 0):=hCR8.ak rfl;have r2:(w7.setCell ⟨ob,0+1,none⟩ (.slice A7 (aC fo').length c7)).cell? ⟨w.heap.size+1,0+2,none⟩=some (.int .i64 0):=hCR8.ak rfl;have r3:(w7.setCell ⟨ob,0+1,none⟩ (.slice A7 (aC fo').length c7)).cell? ⟨w.heap.size+1,0+3,none⟩=some (.int .i64 0):=hCR8.ak rfl;have D:=(((hCR8.aW 0 (.bool fo'.isSome)).aW (0+1) (.slice A7 (aC fo').length c7)).aW (0+2) (.int .i64 (fU fo'))).aW (0+3) (.int .i64 (steps':Int));have q0:=D.ak (i:=0) (v:=.bool fo'.isSome) rfl;have q1:=D.ak (i:=0+1) (v:=(.slice A7 (aC fo').length c7)) rfl;have q2:=D.ak (i:=0+2) (v:=.int .i64 (fU fo')) rfl;have q3:=D.ak (i:=0+3) (v:=.int .i64 (steps':Int)) rfl;clear o7 g7 a7 hCO7 hCR7 hCO8 hCR8 D)
    try simp only[Exit.inBlock,Exit.then]
    refine bodyPost_ret (by simp[results,Try.results11,go_sem,q0,q1,q2,q3];try rfl) rfl ?_
    rw[HA2.out]
    have hno:(Value.slice A7 (aC fo').length c7).ownBlock≠some ob:=own_ne HO7.out HCO7.out (by decide)
    have hnr:(Value.slice A7 (aC fo').length c7).ownBlock≠some (w.heap.size+1):=own_ne HO7.out HCR7.out (by decide)
    exact⟨A7,(aC fo').length,c7,rfl,rfl,hm1002,bN (bN (bN (bN (bN HO7.out _ _ hno) _ _ hnr) _ _ hnr) _ _ hnr) _ _ hnr,(((((HU7.out.setCell _ _ (fun h=>absurd h (by show ¬ob < w.heap.size;omega))).setCell _ _ (fun h=>absurd h (by simp))).setCell _ _ (fun h=>absurd h (by simp))).setCell _ _ (fun h=>absurd h (by simp))).setCell _ _ (fun h=>absurd h (by simp)))⟩
end Go.Proofs.Ytnkefclbchpafaa

/-
  The walks of heronlaw11.letter, awake.
-/
namespace Go.Proofs.Ytnkefclbchpafaa
set_option maxHeartbeats 16000000
open Go.RowKit
set_option linter.unusedVariables false
def letterI (r:Int):List av:=[⟨3,1,0,0,[]⟩,⟨1,2,0,0,[(r,r)]⟩,⟨3,3,0,1,[]⟩,⟨5,0,0,0,[]⟩]
def LetterPost (w:World) (r:Int) (e:Ending) (w':World):Prop :=
 ∃g,e=.returned (.agg #[.slice (some ⟨g,0,none⟩) 4 4,.int .i64 0,.int .i64 2])∧dH w' (fun k=>w.heap.size≤k) (some ⟨g,0,none⟩) 4 (letterI r)∧Upd Nob w w'
theorem letter_insts {w:World} {S:Nat→Prop} {g g2:Nat} {t:TypeId} {r:Int} (hr:In64 r)
  (h:Cells w g t #[.int .i64 3,.int .i64 1,.int .i64 0,.int .i64 0,.slice none 0 0,.int .i64 1,.int .i64 2,.int .i64 0,.int .i64 0,.slice (some ⟨g2,0,none⟩) 1 1,.int .i64 3,.int .i64 3,.int .i64 0,.int .i64 1,.slice none 0 0,.int .i64 5,.int .i64 0,.int .i64 0,.int .i64 0,.slice none 0 0])
  {t2:TypeId} (h2:Cells w g2 t2 #[.int .i64 r,.int .i64 r]) (hg:S g) (hg2:S g2):dH w S (some ⟨g,0,none⟩) 4 (letterI r):=by
 have none0:∀S,bO w S none 0 []:=fun S=>⟨Reads.nil_,(fun x h=>by cases h),by omega⟩
 have k0:In64 0:=by unfold In64;omega
 have k1:In64 1:=by unfold In64;omega
 have k2:In64 2:=by unfold In64;omega
 have k3:In64 3:=by unfold In64;omega
 have k5:In64 5:=by unfold In64;omega
 refine⟨rfl,fun i x hx=>?_⟩
 have hl:=(List.getElem?_eq_some_iff.1 hx).1
 have hadd:∀i,(⟨g,0,none⟩:Addr).add (i*5)=⟨g,i*5,none⟩:=fun i=>by rw[bX,Nat.zero_add]
 have lt5:∀(i:Nat) (cs:Array Value),cs.size=5→(∀j,j < 5→w.cell? ⟨g,i*5+j,none⟩=cs[j]?)→∀j v,cs[j]?=some v→w.cell? ⟨g,i*5+j,none⟩=some v:=by
  intro i cs hcs hj j v hv
  have:=(Array.getElem?_eq_some_iff.1 hv).1
  rw[hj j (by omega),hv]
 match i,hl with
 | 0,_ =>
  obtain rfl:(⟨3,1,0,0,[]⟩:av)=x:=by injection hx
  refine⟨_,g,0*5,none,0,0,rfl,hadd 0,hg,h.lt,none0 _,⟨k3,k1,k0,k0⟩,lt5 0 _ rfl fun j hj=>?_⟩
  rw[h.cell]
  match j,hj with
  | 0,_=>rfl
  | 1,_=>rfl
  | 2,_=>rfl
  | 3,_=>rfl
  | 4,_=>rfl
 | 1,_ =>
  obtain rfl:(⟨1,2,0,0,[(r,r)]⟩:av)=x:=by injection hx
  refine⟨_,g,1*5,some ⟨g2,0,none⟩,1,1,rfl,hadd 1,hg,h.lt,⟨⟨rfl,fun _=>⟨_,rfl,h2.lt,hg2,fun j u hu=>?_⟩⟩,?_,by omega⟩,⟨k1,k2,k0,k0⟩,lt5 1 _ rfl fun j hj=>?_⟩
  ·rw[bX,h2.cell,Nat.zero_add]
   match j,hu with
   | 0,hu=>exact hu
   | 1,hu=>exact hu
  ·intro x hx
   simp only[List.mem_singleton] at hx
   subst hx
   exact⟨hr,hr⟩
  rw[h.cell]
  match j,hj with
  | 0,_=>rfl
  | 1,_=>rfl
  | 2,_=>rfl
  | 3,_=>rfl
  | 4,_=>rfl
 | 2,_ =>
  obtain rfl:(⟨3,3,0,1,[]⟩:av)=x:=by injection hx
  refine⟨_,g,2*5,none,0,0,rfl,hadd 2,hg,h.lt,none0 _,⟨k3,k3,k0,k1⟩,lt5 2 _ rfl fun j hj=>?_⟩
  rw[h.cell]
  match j,hj with
  | 0,_=>rfl
  | 1,_=>rfl
  | 2,_=>rfl
  | 3,_=>rfl
  | 4,_=>rfl
 | 3,_ =>
  obtain rfl:(⟨5,0,0,0,[]⟩:av)=x:=by injection hx
  refine⟨_,g,3*5,none,0,0,rfl,hadd 3,hg,h.lt,none0 _,⟨k5,k0,k0,k0⟩,lt5 3 _ rfl fun j hj=>?_⟩
  rw[h.cell]
  match j,hj with
  | 0,_=>rfl
  | 1,_=>rfl
  | 2,_=>rfl
  | 3,_=>rfl
  | 4,_=>rfl
theorem letter_any (w:World) (r:Int) (hr:In64 r):Calls Try.prog 28 #[.int .i64 r] w (LetterPost w r):=by
 have hcells:∃w2,w2=(((w.alloc (.cells #[.slice (some ⟨w.heap.size+1+1,0,none⟩) 4 4,.int .i64 0,.int .i64 2] 27)).alloc (.cells #[.int .i64 r,.int .i64 r] 66)).alloc
   (.cells #[.int .i64 3,.int .i64 1,.int .i64 0,.int .i64 0,.slice none 0 0,.int .i64 1,.int .i64 2,.int .i64 0,.int .i64 0,.slice (some ⟨w.heap.size+1,0,none⟩) 1 1,.int .i64 3,.int .i64 3,.int .i64 0,.int .i64 1,.slice none 0 0,.int .i64 5,.int .i64 0,.int .i64 0,.int .i64 0,.slice none 0 0] 64)) ∧
   Cells w2 w.heap.size 27 #[.slice (some ⟨w.heap.size+1+1,0,none⟩) 4 4,.int .i64 0,.int .i64 2]∧Cells w2 (w.heap.size+1) 66 #[.int .i64 r,.int .i64 r] ∧
   Cells w2 (w.heap.size+1+1) 64 #[.int .i64 3,.int .i64 1,.int .i64 0,.int .i64 0,.slice none 0 0,.int .i64 1,.int .i64 2,.int .i64 0,.int .i64 0,.slice (some ⟨w.heap.size+1,0,none⟩) 1 1,.int .i64 3,.int .i64 3,.int .i64 0,.int .i64 1,.slice none 0 0,.int .i64 5,.int .i64 0,.int .i64 0,.int .i64 0,.slice none 0 0]∧Upd Nob w w2:=by
  refine⟨_,rfl,((Cells.new _ _ _).alloc _).alloc _,?_,?_,(((Upd.refl _ _).alloc _).alloc _).alloc _⟩
  ·have:=(Cells.new (w.alloc (.cells #[.slice (some ⟨w.heap.size+1+1,0,none⟩) 4 4,.int .i64 0,.int .i64 2] 27)) 66 #[.int .i64 r,.int .i64 r])
   rw[World.size_alloc] at this
   exact this.alloc _
  ·have:=(Cells.new ((w.alloc (.cells #[.slice (some ⟨w.heap.size+1+1,0,none⟩) 4 4,.int .i64 0,.int .i64 2] 27)).alloc (.cells #[.int .i64 r,.int .i64 r] 66)) 64 #[.int .i64 3,.int .i64 1,.int .i64 0,.int .i64 0,.slice none 0 0,.int .i64 1,.int .i64 2,.int .i64 0,.int .i64 0,.slice (some ⟨w.heap.size+1,0,none⟩) 1 1,.int .i64 3,.int .i64 3,.int .i64 0,.int .i64 1,.slice none 0 0,.int .i64 5,.int .i64 0,.int .i64 0,.int .i64 0,.slice none 0 0])
   rw[World.size_alloc,World.size_alloc] at this
   exact this
 obtain⟨w2,hw2,C0,C1,C2,hU⟩:=hcells
 go_enter Try.func28,Try.ntmps28
 go_wp2_with fail
 rw[←hw2]
 have e0:w2.cell? ⟨w.heap.size,0,none⟩=some (.slice (some ⟨w.heap.size+1+1,0,none⟩) 4 4):=C0.ak rfl
 have e1:w2.cell? ⟨w.heap.size,1,none⟩=some (.int .i64 0):=C0.ak rfl
 have e2:w2.cell? ⟨w.heap.size,2,none⟩=some (.int .i64 2):=C0.ak rfl
 clear hw2
 refine bodyPost_ret (by simp[results,Try.results28,go_sem,e0,e1,e2];try rfl) rfl ?_
 exact⟨_,rfl,letter_insts hr C2 C1 (by omega) (by omega),hU⟩
theorem reads_cells {w:World} {g:Nat} {t:TypeId} {cs:Array Value} {xs:List Int} (h:Cells w g t cs) (e:cs.toList=bn xs):Reads w (fun k=>k=g) 1 (some ⟨g,0,none⟩) xs.length (bn xs):=by
 refine⟨by simp[bn],fun _=>⟨_,rfl,h.lt,rfl,fun j u hj=>?_⟩⟩
 rw[bX,Nat.zero_add]
 refine h.ak ?_
 rw[←e] at hj
 simpa using hj
theorem letter_ans:ansF (letterI 97) 0 2 [98,97] 0 false=((some ([1,2],0),6),0):=by decide +kernel
theorem awake_any (w:World):Calls Try.prog 8 #[] w fun e w'=>e=.returned (.bool true)∧Upd Nob w w':=by
 have k0:In64 0:=by unfold In64;omega
 have k2:In64 2:=by unfold In64;omega
 have k97:In64 97:=by unfold In64;omega
 have ht:∀w2:World,dB (w2.alloc (.cells #[.int .i64 98,.int .i64 97] 3)) (fun k=>w2.heap.size≤k) (some ⟨w2.heap.size,0,none⟩) 2 [98,97]:=fun w2 =>
  ⟨(reads_cells (xs:=[98,97]) (Cells.new w2 _ #[.int .i64 98,.int .i64 97]) rfl).weaken (fun k hk=>by omega),by intro x hx;simp at hx;rcases hx with rfl | rfl <;> (unfold In64;omega),by omega⟩
 have HT:=ah ht
 clear ht
 go_enter Try.func8,Try.ntmps8
 go_wp2_with (first
  | (go_at_call 28;refine(letter_any _ 97 k97).mono ?_;rintro e w1 ⟨g,rfl,hI,hU1⟩)
  | fail)
 refine(pk_run (w1.alloc (.cells #[.int .i64 98,.int .i64 97] 3)) (fun k=>w.heap.size≤k) (some ⟨g,0,none⟩) 4 4 (letterI 97) 0 2 (some ⟨w1.heap.size,0,none⟩) 2 2 [98,97] 0 false (hI.upd ((Upd.refl Nob w1).alloc _) (fun _ _=>aj)) k0 k2 (by omega)
  ⟨(HT.out w1).r.weaken (fun k hk=>Nat.le_trans hU1.size hk),(HT.out w1).i,(HT.out w1).n⟩ k0).mono ?_
 rw[letter_ans]
 rintro e w3 ⟨FA,fn,fc,rfl,rfl,-,ho,hU3⟩
 have hlen:(aC (some (([1,2]:List Int),(0:Int)))).length=2:=rfl
 obtain⟨gf,cf,hv,-,-⟩:=ho.form (by rw[hlen];omega)
 injection hv with h1 h2 h3
 subst h1
 subst h3
 have hwh:fU (some (([1,2]:List Int),(0:Int)))=0:=rfl
 have c0:w3.cell? ⟨gf,0,none⟩=some (.int .i64 1):=by rw[ho.cellAt 0 (by rw[hlen];omega)];rfl
 have c1:w3.cell? ⟨gf,1,none⟩=some (.int .i64 2):=by rw[ho.cellAt 1 (by rw[hlen];omega)];rfl
 have hgf:=(ho.lt gf rfl).2
 have hUo:=(Upd.refl Nob w3).alloc (.cells #[.bool true,.slice (some ⟨gf,0,none⟩) 2 fc,.int .i64 0,.int .i64 6] 33)
 have CO:=Cells.new w3 33 #[.bool true,.slice (some ⟨gf,0,none⟩) 2 fc,.int .i64 0,.int .i64 6]
 have c0':=(hUo.cell (p:=⟨gf,0,none⟩) hgf aj).trans c0
 have c1':=(hUo.cell (p:=⟨gf,1,none⟩) hgf aj).trans c1
 have o0:=CO.ak (i:=0) (v:=.bool true) rfl
 have o1:=CO.ak (i:=0+1) (v:=.slice (some ⟨gf,0,none⟩) 2 fc) rfl
 have o3:=CO.ak (i:=0+3) (v:=.int .i64 6) rfl
 simp only[hlen,hwh]
 clear ho hlen hwh CO c0 c1
 have HU:=ah (((hU1.alloc (.cells #[.int .i64 98,.int .i64 97] 3)).trans hU3 (fun _ _ h=>h)).trans hUo (fun _ _ h=>h))
 clear hU1 hU3 hUo hI
 go_wp2_with fail
 go_ret
 exact⟨rfl,HU.out⟩
end Go.Proofs.Ytnkefclbchpafaa

/-
  The walks of heronlaw11's sameInts and may.
-/
namespace Go.Proofs.Ytnkefclbchpafaa
set_option maxHeartbeats 16000000
open Go.RowKit
set_option linter.unusedVariables false
theorem same_any (w:World) (S1 S2:Nat→Prop) (A B:Option Addr) (n m c d:Nat) (xs ys:List Int) (hx:Reads w S1 1 A n (bn xs)) (hy:Reads w S2 1 B m (bn ys)) (hn:n≤140737488355328) :
  Calls Try.prog 15 #[.slice A n c,.slice B m d] w fun e w'=>e=.returned (.bool (decide (xs=ys)))∧∃q,w'=w.drewN q:=by
 obtain rfl:xs.length=n:=by have:=hx.1;simpa [bn] using this
 obtain rfl:ys.length=m:=by have:=hy.1;simpa [bn] using this
 by_cases hl:xs.length=ys.length
 rotate_left
 ·have hv:decide (xs=ys)=false:=decide_eq_false (fun e=>hl (by rw[e]))
  rw[hv];clear hv
  have hlb:((xs.length:Int)==(ys.length:Int))=false:=beq_eq_false_iff_ne.2 (by omega)
  have hlb2:(xs.length==ys.length)=false:=beq_eq_false_iff_ne.2 hl
  go_enter Try.func15,Try.ntmps15
  go_wp2_with fail
  go_ret
  exact⟨rfl,0,rfl⟩
 have HX:=ah hx
 have HY:=ah hy
 have HL:=ah hl
 clear hx hy
 go_enter Try.func15,Try.ntmps15
 go_wp2_with fail
 go_loopg [5] xs.length (fun gk v5 wr=>∃k q:Nat,k+gk=xs.length∧v5=.int .i64 (k:Int)∧wr=w.drewN q∧∀j,j < k→xs[j]?=ys[j]?)
 case atStart=>exact⟨0,0,by omega,rfl,rfl,fun j hj=>by omega⟩
 case round =>
  obtain⟨k,q,hk,rfl,rfl,hj⟩:=hrel
  have HJ:=ah hj
  clear hj
  by_cases hlt:k < xs.length
  ·obtain⟨ad,x,rfl,hxk,hcx⟩:=HX.out.int1 hlt
   obtain⟨bd,y,rfl,hyk,hcy⟩:=HY.out.int1 (k:=k) (by have:=HL.out;omega)
   have g1:(k:Int) < (xs.length:Int):=by omega
   have g2:(k:Int) < (ys.length:Int):=by have:=HL.out;omega
   have HXK:=ah hxk
   have HYK:=ah hyk
   clear hxk hyk hl
   by_cases hxy:x=y
   ·subst hxy
    go_wp2_with fail
    go_quiet (fail)
    go_wp2_with fail
    go_roundg (xs.length - (k+1))
    case measure=>omega
    case rel=>exact⟨k+1,_,by omega,by go_num,by first | rfl | rw[World.drewN_drewN],fun j hj=>(by rcases(by omega:j < k∨j=k) with h | h;exact HJ.out j h;subst h;rw[HXK.out,HYK.out])⟩
   ·have hxe:(x==y)=false:=by simpa using hxy
    have hv:decide (xs=ys)=false:=decide_eq_false (fun e=>by
     have h1:=HXK.out
     rw[e,HYK.out] at h1
     injection h1 with h1
     exact hxy h1.symm)
    have HV:=ah hv
    clear hv
    go_wp2_with fail
    go_quiet (fail)
    go_wp2_with fail
    go_ret
    exact⟨congrArg Ending.returned (congrArg Value.bool HV.out.symm),_,by first | rfl | rw[World.drewN_drewN]⟩
  ·have hkn:k=xs.length:=by omega
   have hv:decide (xs=ys)=true:=decide_eq_true (List.ext_getElem? fun j=>by
    by_cases hj:j < k
    ·exact HJ.out j hj
    ·rw[List.getElem?_eq_none (by omega),List.getElem?_eq_none (by omega)])
   have HV:=ah hv
   clear hk hv
   subst hkn
   go_wp2_with fail
   go_ret
   exact⟨congrArg Ending.returned (congrArg Value.bool HV.out.symm),q,rfl⟩
end Go.Proofs.Ytnkefclbchpafaa
