/-
  Tail, Add7, Rep7, put together.
-/
import Derived.Test.YtnkefclbchpafaaZ00Unf
import Derived.StillTailTactics
import Derived.Test.YtnkefclbchpafaaZ17Sum7

/-
  A region that draws its order, of loads and sums but for its last operations: the world behind the draw is a letter.
-/
namespace Go.Proofs.Ytnkefclbchpafaa
open Go.RowKit
set_option linter.unusedVariables false
theorem dn {P:Program} {id:Nat} {Q:Exit→Act→World→Prop} {a:Act} {w:World} {l:List Oper} (n:Nat) (hm:P.follows .mixedOrders=true) (hB:Region.lexTailB .any l.toArray n=true)
  (h:∀w',Upd Nob w w'→w'.heap.size=w.heap.size→wpStill P l.toArray w' (fun a'=>wpList P l.toArray Q (l.drop n) a' w') (l.take n) a):(Code.region id l.toArray true).wp P Q a w :=
 wp_region_still_tail n hm hB (h w.drew ((Upd.refl Nob w).drew) rfl)
end Go.Proofs.Ytnkefclbchpafaa

/-
  The walks of heronref07's row.add, row.join, row.joined: some sums.
-/
namespace Go.Proofs.Ytnkefclbchpafaa
set_option maxRecDepth 100000
set_option maxHeartbeats 16000000
open Go.RowKit
set_option linter.unusedVariables false
def RowC (w:World) (rb:Nat):Prop:=∃s n d k0 n0 s0 d0:Int,Cells w rb 134 #[.int .i64 s,.int .i64 n,.int .i64 d,.int .i64 k0,.int .i64 n0,.int .i64 s0,.int .i64 d0]
def AddAns (rb:Nat) (w:World) (e:Ending) (w':World):Prop:=(∃v,e=.returned v)∧RowC w' rb∧Upd (fun b=>b=rb) w w'
theorem RowC.lt {w:World} {rb:Nat} (h:RowC w rb):rb < w.heap.size:=by
 obtain⟨_,_,_,_,_,_,_,h⟩:=h
 exact h.lt
theorem RowC.upd {F:Nat→Prop} {w w':World} {rb:Nat} (h:RowC w rb) (hU:Upd F w w') (hF:¬F rb):RowC w' rb:=by
 obtain⟨a,b,c,d,e,f,g,h⟩:=h
 exact⟨a,b,c,d,e,f,g,h.upd hU hF⟩
theorem row_cell {w:World} {rb:Nat} (s n d k0 n0 s0 d0:Int) (h:Cells w rb 134 #[.int .i64 s,.int .i64 n,.int .i64 d,.int .i64 k0,.int .i64 n0,.int .i64 s0,.int .i64 d0]) (q:Int) :
  Cells (w.setCell ⟨rb,0,none⟩ (.int .i64 q)) rb 134 #[.int .i64 q,.int .i64 n,.int .i64 d,.int .i64 k0,.int .i64 n0,.int .i64 s0,.int .i64 d0] ∧
  Cells (w.setCell ⟨rb,1,none⟩ (.int .i64 q)) rb 134 #[.int .i64 s,.int .i64 q,.int .i64 d,.int .i64 k0,.int .i64 n0,.int .i64 s0,.int .i64 d0] ∧
  Cells (w.setCell ⟨rb,2,none⟩ (.int .i64 q)) rb 134 #[.int .i64 s,.int .i64 n,.int .i64 q,.int .i64 k0,.int .i64 n0,.int .i64 s0,.int .i64 d0]:=⟨h.aW 0 _,h.aW 1 _,h.aW 2 _⟩
theorem jg {w w1:World} {rb:Nat} (hU:Upd (fun b=>b=rb) w w1) (i:Nat) (q:Value):Upd (fun b=>b=rb) w (w1.setCell ⟨rb,i,none⟩ q):=hU.setCell _ _ (fun _=>rfl)
theorem add7_go (w:World) (rb:Nat) (s n d k0 n0 s0 d0 k nn ss dd tm fl:Int) (hr:Cells w rb 134 #[.int .i64 s,.int .i64 n,.int .i64 d,.int .i64 k0,.int .i64 n0,.int .i64 s0,.int .i64 d0]) :
  Calls Try.prog 82 #[.pointer (some ⟨rb,0,none⟩),gX k nn ss dd,.int .i64 tm,.int .i64 fl] w (AddAns rb w):=by
 generalize hP:AddAns rb w=P
 have HP:=ah (show ∀v w',RowC w' rb→Upd (fun b=>b=rb) w w'→P (.returned v) w' from fun v w' a b=>by rw[←hP];exact⟨⟨v,rfl⟩,a,b⟩)
 clear hP
 have CX:=Cells.new w 115 #[.int .i64 k,.int .i64 nn,.int .i64 ss,.int .i64 dd]
 have UX:=(Upd.refl (fun b=>b=rb) w).alloc (.cells #[.int .i64 k,.int .i64 nn,.int .i64 ss,.int .i64 dd] 115)
 have CR:=hr.alloc (.cells #[.int .i64 k,.int .i64 nn,.int .i64 ss,.int .i64 dd] 115)
 have hlt:=hr.lt
 have hne:w.heap.size≠rb:=by omega
 have HNE:=ah hne
 clear hr hlt hne
 unfold gX
 go_enter Try.func82,Try.ntmps82
 go_upto_region 1 with fail
 generalize w.alloc (.cells #[.int .i64 k,.int .i64 nn,.int .i64 ss,.int .i64 dd] 115)=w1 at *
 have r0:w1.cell? ⟨rb,0,none⟩=some (.int .i64 s):=CR.ak rfl
 have z0:=CR.frozen 0
 obtain⟨x0,x1,x2,x3⟩:=aA CX
 have HX:=ah CX
 have HU:=ah UX
 have HR:=ah CR
 clear CX UX CR
 by_cases ht:tm=0
 ·have ht2:(tm==0)=true:=by simp[ht]
  clear ht
  go_wp2_with fail
  try simp only[Exit.inBlock,Exit.then]
  refine bodyPost_ret (results_none rfl _ _ _) rfl ?_
  exact HP.out _ _ ⟨_,_,_,_,_,_,_,HR.out⟩ HU.out
 have ht2:(tm==0)=false:=by simpa using ht
 clear ht
 by_cases hk:k=fl
 ·have hk2:(k==fl)=true:=by simpa using hk
  clear hk
  go_upto_region 3 with fail
  refine dn 13 (by kernel_rfl) (by kernel_rfl) ?_
  intro w2 U2 h2
  have CR2:=HR.out.upd U2 aj
  have CX2:=HX.out.upd U2 aj
  have UU2:=HU.out.trans U2 (fun _ _ h=>absurd h aj)
  clear r0 z0 x0 x1 x2 x3 HX HU HR
  have r0:w2.cell? ⟨rb,0,none⟩=some (.int .i64 s):=CR2.ak rfl
  have z0:=CR2.frozen 0
  obtain⟨x0,x1,x2,x3⟩:=aA CX2
  have HX:=ah CX2
  have HU:=ah UU2
  have HR:=ah CR2
  clear CX2 CR2 UU2 U2 h2
  simp only[List.take_succ_cons,List.take_zero,List.drop_succ_cons,List.drop_zero]
  repeat still_step
  refine wpStill_nil ?_
  go_upto_region 4 with fail
  generalize (if (1099511627776:Int) < wrap64 (s+wrap64 (tm*ss)) then 1099511627776 else wrap64 (s+wrap64 (tm*ss)))=q0
  have CR3:=(row_cell _ _ _ _ _ _ _ HR.out q0).1
  have CX3:=HX.out.far ⟨rb,0,none⟩ (.int .i64 q0) HNE.out
  have UU3:=jg HU.out 0 (.int .i64 q0)
  clear r0 z0 x0 x1 x2 x3 HX HU HR
  generalize w2.setCell ⟨rb,0,none⟩ (.int .i64 q0)=w3 at *
  refine dn 14 (by kernel_rfl) (by kernel_rfl) ?_
  intro w4 U4 h4
  have CR4:=CR3.upd U4 aj
  have CX4:=CX3.upd U4 aj
  have UU4:=UU3.trans U4 (fun _ _ h=>absurd h aj)
  have r1:w4.cell? ⟨rb,1,none⟩=some (.int .i64 n):=CR4.ak rfl
  have z1:=CR4.frozen 1
  obtain⟨x0,x1,x2,x3⟩:=aA CX4
  have HX:=ah CX4
  have HU:=ah UU4
  have HR:=ah CR4
  clear CX4 CR4 UU4 U4 h4 CX3 CR3 UU3
  simp only[List.take_succ_cons,List.take_zero,List.drop_succ_cons,List.drop_zero]
  repeat still_step
  refine wpStill_nil ?_
  go_upto_region 5 with fail
  generalize (if (1099511627776:Int) < wrap64 (n+wrap64 (tm*wrap64 (nn - 1))) then 1099511627776 else wrap64 (n+wrap64 (tm*wrap64 (nn - 1))))=q1
  have CR3:=(row_cell _ _ _ _ _ _ _ HR.out q1).2.1
  have CX3:=HX.out.far ⟨rb,1,none⟩ (.int .i64 q1) HNE.out
  have UU3:=jg HU.out 1 (.int .i64 q1)
  clear r1 z1 x0 x1 x2 x3 HX HU HR
  generalize w4.setCell ⟨rb,1,none⟩ (.int .i64 q1)=w5 at *
  refine dn 11 (by kernel_rfl) (by kernel_rfl) ?_
  intro w6 U4 h4
  have CR4:=CR3.upd U4 aj
  have CX4:=CX3.upd U4 aj
  have UU4:=UU3.trans U4 (fun _ _ h=>absurd h aj)
  have r1:w6.cell? ⟨rb,2,none⟩=some (.int .i64 d):=CR4.ak rfl
  have z1:=CR4.frozen 2
  obtain⟨x0,x1,x2,x3⟩:=aA CX4
  have HX:=ah CX4
  have HU:=ah UU4
  have HR:=ah CR4
  clear CX4 CR4 UU4 U4 h4 CX3 CR3 UU3
  simp only[List.take_succ_cons,List.take_zero,List.drop_succ_cons,List.drop_zero]
  repeat still_step
  refine wpStill_nil ?_
  go_wp2_with fail
  all_goals
   try simp only[Exit.inBlock,Exit.then]
   refine bodyPost_ret (results_none rfl _ _ _) rfl ?_
   exact HP.out _ _ ⟨_,_,_,_,_,_,_,(row_cell _ _ _ _ _ _ _ HR.out _).2.2⟩ (jg HU.out _ _)
 have hk2:(k==fl)=false:=by simpa using hk
 clear hk
 go_upto_region 7 with fail
 generalize (if (1099511627776:Int) < wrap64 (s+tm) then 1099511627776 else wrap64 (s+tm))=q0
 have CR3:=(row_cell _ _ _ _ _ _ _ HR.out q0).1
 have CX3:=HX.out.far ⟨rb,0,none⟩ (.int .i64 q0) HNE.out
 have UU3:=jg HU.out 0 (.int .i64 q0)
 clear r0 z0 x0 x1 x2 x3 HX HU HR
 generalize w1.setCell ⟨rb,0,none⟩ (.int .i64 q0)=w3 at *
 refine dn 13 (by kernel_rfl) (by kernel_rfl) ?_
 intro w4 U4 h4
 have CR4:=CR3.upd U4 aj
 have CX4:=CX3.upd U4 aj
 have UU4:=UU3.trans U4 (fun _ _ h=>absurd h aj)
 have r1:w4.cell? ⟨rb,1,none⟩=some (.int .i64 n):=CR4.ak rfl
 have z1:=CR4.frozen 1
 obtain⟨x0,x1,x2,x3⟩:=aA CX4
 have HX:=ah CX4
 have HU:=ah UU4
 have HR:=ah CR4
 clear CX4 CR4 UU4 U4 h4 CX3 CR3 UU3
 simp only[List.take_succ_cons,List.take_zero,List.drop_succ_cons,List.drop_zero]
 repeat still_step
 refine wpStill_nil ?_
 go_upto_region 8 with fail
 generalize (if (1099511627776:Int) < wrap64 (n+wrap64 (tm*nn)) then 1099511627776 else wrap64 (n+wrap64 (tm*nn)))=q1
 have CR3:=(row_cell _ _ _ _ _ _ _ HR.out q1).2.1
 have CX3:=HX.out.far ⟨rb,1,none⟩ (.int .i64 q1) HNE.out
 have UU3:=jg HU.out 1 (.int .i64 q1)
 clear r1 z1 x0 x1 x2 x3 HX HU HR
 generalize w4.setCell ⟨rb,1,none⟩ (.int .i64 q1)=w5 at *
 refine dn 10 (by kernel_rfl) (by kernel_rfl) ?_
 intro w6 U4 h4
 have CR4:=CR3.upd U4 aj
 have CX4:=CX3.upd U4 aj
 have UU4:=UU3.trans U4 (fun _ _ h=>absurd h aj)
 have r1:w6.cell? ⟨rb,2,none⟩=some (.int .i64 d):=CR4.ak rfl
 have z1:=CR4.frozen 2
 obtain⟨x0,x1,x2,x3⟩:=aA CX4
 have HX:=ah CX4
 have HU:=ah UU4
 have HR:=ah CR4
 clear CX4 CR4 UU4 U4 h4 CX3 CR3 UU3
 simp only[List.take_succ_cons,List.take_zero,List.drop_succ_cons,List.drop_zero]
 repeat still_step
 refine wpStill_nil ?_
 go_upto_region 9 with fail
 generalize (if d < dd then dd else d)=q2
 have CR3:=(row_cell _ _ _ _ _ _ _ HR.out q2).2.2
 have CX3:=HX.out.far ⟨rb,2,none⟩ (.int .i64 q2) HNE.out
 have UU3:=jg HU.out 2 (.int .i64 q2)
 clear r1 z1 x0 x1 x2 x3 HX HU HR
 generalize w6.setCell ⟨rb,2,none⟩ (.int .i64 q2)=w7 at *
 obtain⟨x0,x1,x2,x3⟩:=aA CX3
 have r3:w7.cell? ⟨rb,3,none⟩=some (.int .i64 k0):=CR3.ak rfl
 have r4:w7.cell? ⟨rb,4,none⟩=some (.int .i64 n0):=CR3.ak rfl
 have r5:w7.cell? ⟨rb,5,none⟩=some (.int .i64 s0):=CR3.ak rfl
 have r6:w7.cell? ⟨rb,6,none⟩=some (.int .i64 d0):=CR3.ak rfl
 have z3:=CR3.frozen 3
 have z4:=CR3.frozen 4
 have z5:=CR3.frozen 5
 have z6:=CR3.frozen 6
 have HU:=ah UU3
 have HR:=ah CR3
 clear CX3 CR3 UU3
 go_wp2_with fail
 all_goals
  try simp only[Exit.inBlock,Exit.then]
  refine bodyPost_ret (results_none rfl _ _ _) rfl ?_
  exact HP.out _ _ ⟨_,_,_,_,_,_,_,(((HR.out.aW 3 _).aW 4 _).aW 5 _).aW 6 _⟩ (jg (jg (jg (jg HU.out _ _) _ _) _ _) _ _)
theorem add7_any {w:World} {rb:Nat} (h:RowC w rb) (k nn ss dd tm fl:Int) :
  Calls Try.prog 82 #[.pointer (some ⟨rb,0,none⟩),gX k nn ss dd,.int .i64 tm,.int .i64 fl] w (AddAns rb w):=by
 obtain⟨a,b,c,d,e,f,g,h⟩:=h
 exact add7_go w rb a b c d e f g k nn ss dd tm fl h
theorem iR {w:World} {rb:Nat} (h:RowC w rb) (k nn ss dd tm:Int) :
  Calls Try.prog 81 #[.pointer (some ⟨rb,0,none⟩),gX k nn ss dd,.int .i64 tm] w (AddAns rb w):=by
 generalize hP:AddAns rb w=P
 have HP:=ah (show ∀v w',RowC w' rb→Upd (fun b=>b=rb) w w'→P (.returned v) w' from fun v w' a b=>by rw[←hP];exact⟨⟨v,rfl⟩,a,b⟩)
 clear hP
 have CX:=Cells.new w 115 #[.int .i64 k,.int .i64 nn,.int .i64 ss,.int .i64 dd]
 have UX:=(Upd.refl Nob w).alloc (.cells #[.int .i64 k,.int .i64 nn,.int .i64 ss,.int .i64 dd] 115)
 have HRW:=ah (h.upd UX aj)
 have HU:=ah UX
 clear h UX
 unfold gX
 go_enter Try.func81,Try.ntmps81
 go_upto_region 1 with fail
 generalize w.alloc (.cells #[.int .i64 k,.int .i64 nn,.int .i64 ss,.int .i64 dd] 115)=w1 at *
 obtain⟨x0,x1,x2,x3⟩:=aA CX
 clear CX
 by_cases hk:k=1
 ·have hk2:(k==1)=true:=by simp[hk]
  clear hk
  go_wp2_with fail
  try simp only[Exit.inBlock,Exit.then]
  refine bodyPost_ret (results_none rfl _ _ _) rfl ?_
  exact HP.out _ _ HRW.out (HU.out.mono (fun _ _ h=>absurd h aj))
 ·have hk2:(k==1)=false:=by simpa using hk
  clear hk
  go_wp2_with (go_at_call 82;refine(add7_any HRW.out k nn ss dd tm 4).mono ?_;rintro e w5 ⟨⟨v,rfl⟩,h5,hU5⟩;have H5:=ah h5;have HU5:=ah hU5;clear h5 hU5)
  try simp only[Exit.inBlock,Exit.then]
  refine bodyPost_ret (results_none rfl _ _ _) rfl ?_
  exact HP.out _ _ H5.out ((HU.out.mono (fun _ _ h=>absurd h aj)).trans HU5.out (fun _ _ h=>h))
def kG (w:World) (e:Ending) (w':World):Prop:=∃k n s d:Int,e=.returned (gX k n s d)∧Upd Nob w w'
theorem kH {w:World} {rb:Nat} (h:RowC w rb):Calls Try.prog 83 #[.pointer (some ⟨rb,0,none⟩)] w (kG w):=by
 obtain⟨s,n,d,k0,n0,s0,d0,hr⟩:=h
 generalize hP:kG w=P
 have HP:=ah (show ∀k n s d w',Upd Nob w w'→P (.returned (gX k n s d)) w' from fun k n s d w' b=>by rw[←hP];exact⟨k,n,s,d,rfl,b⟩)
 clear hP
 have C0:=Cells.new w 115 #[.int .i64 0,.int .i64 0,.int .i64 0,.int .i64 0]
 have UX:=(Upd.refl Nob w).alloc (.cells #[.int .i64 0,.int .i64 0,.int .i64 0,.int .i64 0] 115)
 have CR:=hr.alloc (.cells #[.int .i64 0,.int .i64 0,.int .i64 0,.int .i64 0] 115)
 clear hr
 go_enter Try.func83,Try.ntmps83
 go_upto_region 1 with fail
 generalize w.alloc (.cells #[.int .i64 0,.int .i64 0,.int .i64 0,.int .i64 0] 115)=w1 at *
 have r0:w1.cell? ⟨rb,0,none⟩=some (.int .i64 s):=CR.ak rfl
 have r3:w1.cell? ⟨rb,3,none⟩=some (.int .i64 k0):=CR.ak rfl
 have r4:w1.cell? ⟨rb,4,none⟩=some (.int .i64 n0):=CR.ak rfl
 have r5:w1.cell? ⟨rb,5,none⟩=some (.int .i64 s0):=CR.ak rfl
 have r6:w1.cell? ⟨rb,6,none⟩=some (.int .i64 d0):=CR.ak rfl
 obtain⟨c0,c1,c2,c3⟩:=aA C0
 have z0:=C0.frozen 0
 have z1:=C0.frozen 1
 have z2:=C0.frozen 2
 have z3:=C0.frozen 3
 have HC:=ah C0
 have HU:=ah UX
 have HR:=ah CR
 clear C0 UX CR
 by_cases hs0:s=0
 ·have e1:(s==0)=true:=by simp[hs0]
  clear hs0
  go_wp2_with (go_at_call 96;refine(empty7_any w1).mono ?_;rintro e w5 ⟨rfl,hU5⟩;have CQ:=HC.out.upd hU5 aj;obtain⟨c0,c1,c2,c3⟩:=aA CQ;have z0:=CQ.frozen 0;have z1:=CQ.frozen 1;have z2:=CQ.frozen 2;have z3:=CQ.frozen 3;have HU5:=ah (HU.out.trans hU5 (fun _ _ h=>h));have HCQ:=ah CQ;clear CQ hU5;unfold gX)
  obtain⟨C9,U9⟩:=dN HCQ.out HU5.out (Nat.le_refl _) (.int .i64 1) (.int .i64 1) (.int .i64 0) (.int .i64 1)
  obtain⟨q0,q1,q2,q3⟩:=aA C9
  refine bodyPost_ret (by simp[results,Try.results83,go_sem,q0,q1,q2,q3];try rfl) rfl ?_
  exact HP.out _ _ _ _ _ U9
 have e1:(s==0)=false:=by simpa using hs0
 clear hs0
 by_cases hs1:s=1
 ·have e2:(s==1)=true:=by simp[hs1]
  clear hs1
  go_wp2_with fail
  obtain⟨C9,U9⟩:=dN HC.out HU.out (Nat.le_refl _) (.int .i64 k0) (.int .i64 n0) (.int .i64 s0) (.int .i64 d0)
  obtain⟨q0,q1,q2,q3⟩:=aA C9
  refine bodyPost_ret (by simp[results,Try.results83,go_sem,q0,q1,q2,q3];try rfl) rfl ?_
  exact HP.out _ _ _ _ _ U9
 have e2:(s==1)=false:=by simpa using hs1
 clear hs1
 go_upto_region 5 with fail
 refine dn 16 (by kernel_rfl) (by kernel_rfl) ?_
 intro w2 U2 h2
 have CR2:=HR.out.upd U2 aj
 have CX2:=HC.out.upd U2 aj
 have UU2:=HU.out.trans U2 (fun _ _ h=>h)
 clear r0 r3 r4 r5 r6 z0 z1 z2 z3 c0 c1 c2 c3 HC HU HR
 have r0:w2.cell? ⟨rb,0,none⟩=some (.int .i64 s):=CR2.ak rfl
 have r1:w2.cell? ⟨rb,1,none⟩=some (.int .i64 n):=CR2.ak rfl
 have r2:w2.cell? ⟨rb,2,none⟩=some (.int .i64 d):=CR2.ak rfl
 obtain⟨c0,c1,c2,c3⟩:=aA CX2
 have z0:=CX2.frozen 0
 have z1:=CX2.frozen 1
 have z2:=CX2.frozen 2
 have z3:=CX2.frozen 3
 have HC:=ah CX2
 have HU:=ah UU2
 clear CX2 CR2 UU2 U2 h2
 simp only[List.take_succ_cons,List.take_zero,List.drop_succ_cons,List.drop_zero]
 repeat still_step
 refine wpStill_nil ?_
 go_wp2_with fail
 all_goals
  first
   | (obtain⟨C9,U9⟩:=dN HC.out HU.out (Nat.le_refl _) (.int .i64 4) (.int .i64 (1099511627776)) (.int .i64 s) (.int .i64 (wrap64 (d+1)))
      obtain⟨q0,q1,q2,q3⟩:=aA C9
      refine bodyPost_ret (by simp[results,Try.results83,go_sem,q0,q1,q2,q3];try rfl) rfl ?_
      exact HP.out _ _ _ _ _ U9)
   | (obtain⟨C9,U9⟩:=dN HC.out HU.out (Nat.le_refl _) (.int .i64 4) (.int .i64 (wrap64 (n+1))) (.int .i64 s) (.int .i64 (wrap64 (d+1)))
      obtain⟨q0,q1,q2,q3⟩:=aA C9
      refine bodyPost_ret (by simp[results,Try.results83,go_sem,q0,q1,q2,q3];try rfl) rfl ?_
      exact HP.out _ _ _ _ _ U9)
end Go.Proofs.Ytnkefclbchpafaa

/-
  The walks of heronref07's over and repeat: some sums.
-/
namespace Go.Proofs.Ytnkefclbchpafaa
set_option maxRecDepth 100000
set_option maxHeartbeats 16000000
open Go.RowKit
set_option linter.unusedVariables false
theorem over7_some (w:World) (k k0 n s d:Int):Calls Try.prog 79 #[.int .i64 k,gX k0 n s d] w (kG w):=by
 have CX:=Cells.new w 115 #[.int .i64 k0,.int .i64 n,.int .i64 s,.int .i64 d]
 have UX:=(Upd.refl Nob w).alloc (.cells #[.int .i64 k0,.int .i64 n,.int .i64 s,.int .i64 d] 115)
 have sX:(w.alloc (.cells #[.int .i64 k0,.int .i64 n,.int .i64 s,.int .i64 d] 115)).heap.size=w.heap.size+1:=by simp
 generalize hP:kG w=P
 have HP:=ah (show ∀k n s d w',Upd Nob w w'→P (.returned (gX k n s d)) w' from fun k n s d w' b=>by rw[←hP];exact⟨k,n,s,d,rfl,b⟩)
 clear hP
 unfold gX
 go_enter Try.func79,Try.ntmps79
 go_upto_region 1 with fail
 generalize w.alloc (.cells #[.int .i64 k0,.int .i64 n,.int .i64 s,.int .i64 d] 115)=w1 at *
 have C0:=Cells.new w1 115 #[.int .i64 0,.int .i64 0,.int .i64 0,.int .i64 0]
 have hU:=UX.alloc (.cells #[.int .i64 0,.int .i64 0,.int .i64 0,.int .i64 0] 115)
 have CX2:=CX.alloc (.cells #[.int .i64 0,.int .i64 0,.int .i64 0,.int .i64 0] 115)
 generalize w1.alloc (.cells #[.int .i64 0,.int .i64 0,.int .i64 0,.int .i64 0] 115)=w2 at *
 rw[sX] at C0
 obtain⟨x0,x1,x2,x3⟩:=aA CX2
 obtain⟨c0,c1,c2,c3⟩:=aA C0
 have z0:=C0.frozen 0
 have z1:=C0.frozen 1
 have z2:=C0.frozen 2
 have z3:=C0.frozen 3
 have HC:=ah C0
 have HU:=ah hU
 clear C0 hU CX CX2 UX sX
 go_wp2_with fail
 all_goals
  first
   | (obtain⟨C9,U9⟩:=dN HC.out HU.out (by omega) (.int .i64 k) (.int .i64 1099511627776) (.int .i64 1) (.int .i64 (wrap64 (d+1)))
      obtain⟨q0,q1,q2,q3⟩:=aA C9
      refine bodyPost_ret (by simp[results,Try.results79,go_sem,q0,q1,q2,q3];try rfl) rfl ?_
      exact HP.out _ _ _ _ _ U9)
   | (obtain⟨C9,U9⟩:=dN HC.out HU.out (by omega) (.int .i64 k) (.int .i64 (wrap64 (n+1))) (.int .i64 1) (.int .i64 (wrap64 (d+1)))
      obtain⟨q0,q1,q2,q3⟩:=aA C9
      refine bodyPost_ret (by simp[results,Try.results79,go_sem,q0,q1,q2,q3];try rfl) rfl ?_
      exact HP.out _ _ _ _ _ U9)
def SumC (w:World) (b:Nat):Prop:=∃k n s d:Int,Cells w b 115 #[.int .i64 k,.int .i64 n,.int .i64 s,.int .i64 d]
theorem SumC.upd {F:Nat→Prop} {w w':World} {b:Nat} (h:SumC w b) (hU:Upd F w w') (hF:¬F b):SumC w' b:=by
 obtain⟨k,n,s,d,h⟩:=h
 exact⟨k,n,s,d,h.upd hU hF⟩
theorem sum_put {w:World} {g:Nat} {a0 a1 a2 a3:Value} (HC:Cells w g 115 #[a0,a1,a2,a3]) (v0 v1 v2 v3:Value) :
  Cells ((((w.setCell ⟨g,0,none⟩ v0).setCell ⟨g,1,none⟩ v1).setCell ⟨g,2,none⟩ v2).setCell ⟨g,3,none⟩ v3) g 115 #[v0,v1,v2,v3]∧Upd (fun b=>b=g) w ((((w.setCell ⟨g,0,none⟩ v0).setCell ⟨g,1,none⟩ v1).setCell ⟨g,2,none⟩ v2).setCell ⟨g,3,none⟩ v3) :=
 ⟨(((HC.aW 0 _).aW 1 _).aW 2 _).aW 3 _,((((Upd.refl (fun b=>b=g) w).setCell _ _ (fun _=>rfl)).setCell _ _ (fun _=>rfl)).setCell _ _ (fun _=>rfl)).setCell _ _ (fun _=>rfl)⟩
structure RepB (w0 w:World) (b y o r:Nat) (cs:Array Value):Prop where
 lo:w0.heap.size≤b∧b < y∧y < o∧o < r
 t:Cells w b 47 cs
 ys:SumC w y
 os:SumC w o
 rs:RowC w r
 u:Upd Nob w0 w
theorem RepB.upd {F:Nat→Prop} {w0 w w':World} {b y o r:Nat} {cs:Array Value} (h:RepB w0 w b y o r cs) (hU:Upd F w w') (hF:∀k,F k→r < k):RepB w0 w' b y o r cs:=by
 obtain⟨l,ht,hy,ho,hr,hu⟩:=h
 exact⟨l,ht.upd hU (fun e=>by have:=hF _ e;omega),hy.upd hU (fun e=>by have:=hF _ e;omega),ho.upd hU (fun e=>by have:=hF _ e;omega),hr.upd hU (fun e=>by have:=hF _ e;omega),hu.trans hU (fun k hk e=>by have:=hF _ e;omega)⟩
theorem RepB.nob {w0 w w':World} {b y o r:Nat} {cs:Array Value} (h:RepB w0 w b y o r cs) (hU:Upd Nob w w'):RepB w0 w' b y o r cs:=h.upd hU (fun _ e=>absurd e aj)
theorem RepB.row {w0 w w':World} {b y o r:Nat} {cs:Array Value} (h:RepB w0 w b y o r cs) (hU:Upd (fun k=>k=r) w w') (hr:RowC w' r):RepB w0 w' b y o r cs:=by
 obtain⟨l,ht,hy,ho,-,hu⟩:=h
 exact⟨l,ht.upd hU (by omega),hy.upd hU (by omega),ho.upd hU (by omega),hr,hu.trans hU (fun k hk e=>by omega)⟩
theorem RepB.start (w:World) (cs:Array Value) (k n s d:Int) {b y o r:Nat} (e0:w.heap.size=b) (e1:w.heap.size+1=y) (e2:w.heap.size+1+1=o) (e3:w.heap.size+1+1+1=r) :
  RepB w ((((w.alloc (.cells cs 47)).alloc (.cells #[.int .i64 k,.int .i64 n,.int .i64 s,.int .i64 d] 115)).alloc (.cells #[.int .i64 0,.int .i64 0,.int .i64 0,.int .i64 0] 115)).alloc (.cells #[.int .i64 0,.int .i64 0,.int .i64 0,.int .i64 0,.int .i64 0,.int .i64 0,.int .i64 0] 134)) b y o r cs:=by
 subst e0 e1 e2 e3
 refine⟨by omega,(((Cells.new _ _ _).alloc _).alloc _).alloc _,⟨k,n,s,d,?_⟩,⟨0,0,0,0,?_⟩,⟨0,0,0,0,0,0,0,?_⟩,((((Upd.refl Nob w).alloc _).alloc _).alloc _).alloc _⟩
 ·have:=Cells.new (w.alloc (.cells cs 47)) 115 #[.int .i64 k,.int .i64 n,.int .i64 s,.int .i64 d]
  rw[show(w.alloc (.cells cs 47)).heap.size=w.heap.size+1 by simp] at this
  exact(this.alloc _).alloc _
 ·have:=Cells.new ((w.alloc (.cells cs 47)).alloc (.cells #[.int .i64 k,.int .i64 n,.int .i64 s,.int .i64 d] 115)) 115 #[.int .i64 0,.int .i64 0,.int .i64 0,.int .i64 0]
  rw[show((w.alloc (.cells cs 47)).alloc (.cells #[.int .i64 k,.int .i64 n,.int .i64 s,.int .i64 d] 115)).heap.size=w.heap.size+1+1 by simp] at this
  exact this.alloc _
 ·have:=Cells.new (((w.alloc (.cells cs 47)).alloc (.cells #[.int .i64 k,.int .i64 n,.int .i64 s,.int .i64 d] 115)).alloc (.cells #[.int .i64 0,.int .i64 0,.int .i64 0,.int .i64 0] 115)) 134 #[.int .i64 0,.int .i64 0,.int .i64 0,.int .i64 0,.int .i64 0,.int .i64 0,.int .i64 0]
  rw[show(((w.alloc (.cells cs 47)).alloc (.cells #[.int .i64 k,.int .i64 n,.int .i64 s,.int .i64 d] 115)).alloc (.cells #[.int .i64 0,.int .i64 0,.int .i64 0,.int .i64 0] 115)).heap.size=w.heap.size+1+1+1 by simp] at this
  exact this
theorem repeat7_any (t:Tree) (w:World) (RA:Option Addr) (rc:Nat) (SA:Option Addr) (sc:Nat) (k n s d:Int) (hm:0≤t.mn∧t.mn≤1000) (hx:t.mx=-1∨t.mn≤t.mx∧t.mx≤1000) :
  Calls Try.prog 80 #[.agg (au t RA rc SA sc),gX k n s d] w (kG w):=by
 generalize hP:kG w=P
 have HP:=ah (show ∀k n s d w',Upd Nob w w'→P (.returned (gX k n s d)) w' from fun k n s d w' b=>by rw[←hP];exact⟨k,n,s,d,rfl,b⟩)
 clear hP
 obtain⟨b,hb⟩:∃b,w.heap.size=b:=⟨_,rfl⟩
 obtain⟨y,hy⟩:∃y,w.heap.size+1=y:=⟨_,rfl⟩
 obtain⟨o,ho⟩:∃o,w.heap.size+1+1=o:=⟨_,rfl⟩
 obtain⟨r,hr⟩:∃r,w.heap.size+1+1+1=r:=⟨_,rfl⟩
 have B0:=RepB.start w (au t RA rc SA sc) k n s d hb hy ho hr
 have HM:=ah hm
 have HX:=ah hx
 clear hm hx
 unfold gX au
 unfold au at B0
 have HB:=ah (And.intro hb (And.intro hy (And.intro ho hr)))
 clear hb hy ho hr
 go_enter Try.func80,Try.ntmps80
 go_upto_region 2 with fail
 obtain⟨hb,hy,ho,hr⟩:=HB.out
 have hy2:b+1=y:=by omega
 have ho2:y+1=o:=by omega
 have hr2:o+1=r:=by omega
 clear hy ho hr HB
 simp only[hb,hy2,ho2,hr2]
 clear hb hy2 ho2 hr2
 generalize (((w.alloc (.cells #[.int .i64 t.kind,.slice RA t.rs.length rc,.int .i64 t.am,.slice SA t.subs.length sc,.int .i64 t.mn,.int .i64 t.mx,.bool t.lz,.int .i64 t.ix,.string t.nm] 47)).alloc (.cells #[.int .i64 k,.int .i64 n,.int .i64 s,.int .i64 d] 115)).alloc (.cells #[.int .i64 0,.int .i64 0,.int .i64 0,.int .i64 0] 115)).alloc (.cells #[.int .i64 0,.int .i64 0,.int .i64 0,.int .i64 0,.int .i64 0,.int .i64 0,.int .i64 0] 134)=w1 at *
 obtain⟨k0,n0,s0,d0,CY⟩:=B0.ys
 obtain⟨y0,y1,y2,y3⟩:=aA CY
 have HB:=ah B0
 clear B0 CY
 go_upto_region 3 with(go_at_call 79;refine(over7_some w1 6 _ _ _ _).mono ?_;rintro e w5 ⟨k1,n1,s1,d1,rfl,hU5⟩;have HU5:=ah hU5;clear hU5;unfold gX)
 have HS:=ah (show SumC (w5.alloc (.cells #[.int .i64 k1,.int .i64 n1,.int .i64 s1,.int .i64 d1] 115)) w5.heap.size from⟨k1,n1,s1,d1,Cells.new _ _ _⟩)
 have HB5:=ah ((HB.out.nob HU5.out).nob ((Upd.refl Nob w5).alloc (.cells #[.int .i64 k1,.int .i64 n1,.int .i64 s1,.int .i64 d1] 115)))
 have HRP:=ah (show r < w5.heap.size from(HB.out.nob HU5.out).rs.lt)
 clear HU5 HB y0 y1 y2 y3
 have HB:=HB5
 clear HB5
 generalize w5.alloc (.cells #[.int .i64 k1,.int .i64 n1,.int .i64 s1,.int .i64 d1] 115)=w6 at *
 generalize w5.heap.size=p at *
 obtain⟨k0,n0,s0,d0,CY⟩:=HB.out.ys;obtain⟨y0,y1,y2,y3⟩:=aA CY;clear CY
 obtain⟨e0,e1,e2,e3,e4,e5,e6,e7,e8⟩:=aI HB.out.t
 by_cases hx1:t.mx=-1
 ·have hx2:(t.mx==-1)=true:=by simp[hx1]
  clear hx1
  obtain⟨k1,n1,s1,d1,CP⟩:=HS.out;obtain⟨p0,p1,p2,p3⟩:=aA CP;clear CP
  go_upto_region 5 with(go_at_call 81;refine(iR HB.out.rs _ _ _ _ _).mono ?_;rintro e w5 ⟨⟨v,rfl⟩,h5,hU5⟩;have HS:=ah (HS.out.upd hU5 (by have:=HRP.out;omega));have HB:=ah (HB.out.row hU5 h5);clear h5 hU5;obtain⟨k0,n0,s0,d0,CY⟩:=HB.out.ys;obtain⟨y0,y1,y2,y3⟩:=aA CY;clear CY;obtain⟨e0,e1,e2,e3,e4,e5,e6,e7,e8⟩:=aI HB.out.t)
  obtain⟨k1,n1,s1,d1,CP⟩:=HS.out;obtain⟨p0,p1,p2,p3⟩:=aA CP;clear CP
  go_upto_region 6 with(go_at_call 81;refine(iR HB.out.rs _ _ _ _ _).mono ?_;rintro e w5 ⟨⟨v,rfl⟩,h5,hU5⟩;have HB:=ah (HB.out.row hU5 h5);clear h5 hU5;obtain⟨k0,n0,s0,d0,CY⟩:=HB.out.ys;obtain⟨y0,y1,y2,y3⟩:=aA CY;clear CY;obtain⟨e0,e1,e2,e3,e4,e5,e6,e7,e8⟩:=aI HB.out.t)
  go_wp2_with (go_at_call 83;refine(kH HB.out.rs).mono ?_;rintro e w5 ⟨k2,n2,s2,d2,rfl,hU5⟩;have HB:=ah (HB.out.nob hU5);clear hU5;unfold gX;obtain⟨ko,no,so,do_,CO⟩:=HB.out.os;obtain⟨o0,o1,o2,o3⟩:=aA CO;have z0:=CO.frozen 0;have z1:=CO.frozen 1;have z2:=CO.frozen 2;have z3:=CO.frozen 3;clear CO)
  all_goals
   obtain⟨ko,no,so,do_,CO⟩:=HB.out.os
   obtain⟨C9,U9⟩:=dN CO HB.out.u (by have:=HB.out.lo;omega) (.int .i64 k2) (.int .i64 n2) (.int .i64 s2) (.int .i64 d2)
   obtain⟨q0,q1,q2,q3⟩:=aA C9
   refine bodyPost_ret (by simp[results,Try.results80,go_sem,q0,q1,q2,q3];try rfl) rfl ?_
   exact HP.out _ _ _ _ _ U9
 have hx2:(t.mx==-1)=false:=by simpa using hx1
 have hxx:=HX.out.resolve_left hx1
 have HX2:=ah hxx
 clear hx1 hxx HS
 go_upto_region 8 with(go_at_call 81;refine(iR HB.out.rs _ _ _ _ _).mono ?_;rintro e w5 ⟨⟨v,rfl⟩,h5,hU5⟩;have HB:=ah (HB.out.row hU5 h5);clear h5 hU5;obtain⟨k0,n0,s0,d0,CY⟩:=HB.out.ys;obtain⟨y0,y1,y2,y3⟩:=aA CY;clear CY;obtain⟨e0,e1,e2,e3,e4,e5,e6,e7,e8⟩:=aI HB.out.t)
 go_upto_region 9 with(go_at_call 96;refine(empty7_any w5).mono ?_;rintro e w7 ⟨rfl,hU7⟩;have HU7:=ah hU7;clear hU7;unfold gX)
 have HS:=ah (show SumC (w7.alloc (.cells #[.int .i64 1,.int .i64 1,.int .i64 0,.int .i64 1] 115)) w7.heap.size from⟨1,1,0,1,Cells.new _ _ _⟩)
 have HB5:=ah ((HB.out.nob HU7.out).nob ((Upd.refl Nob w7).alloc (.cells #[.int .i64 1,.int .i64 1,.int .i64 0,.int .i64 1] 115)))
 have HRQ:=ah (show r < w7.heap.size from(HB.out.nob HU7.out).rs.lt)
 clear HU7 HB y0 y1 y2 y3 e0 e1 e2 e3 e4 e5 e6 e7 e8
 have HB:=HB5
 clear HB5
 generalize w7.alloc (.cells #[.int .i64 1,.int .i64 1,.int .i64 0,.int .i64 1] 115)=w8 at *
 generalize w7.heap.size=q at *
 go_wp2_with fail
 go_loopg [8,9,10] (t.mx - t.mn).toNat (fun gk v8 v9 v10 wr=>∃(i:Nat),i+gk=(t.mx - t.mn).toNat+1∧1≤i∧v8=.int .i64 (i:Int)∧RepB w wr b y o r #[.int .i64 t.kind,.slice RA t.rs.length rc,.int .i64 t.am,.slice SA t.subs.length sc,.int .i64 t.mn,.int .i64 t.mx,.bool t.lz,.int .i64 t.ix,.string t.nm]∧SumC wr q)
 case atStart=>exact⟨1,by omega,by omega,rfl,HB.out,HS.out⟩
 case round =>
  clear HB HS
  obtain⟨i,hi,hi1,rfl,hB,hS⟩:=hrel
  have HB:=ah hB
  have HS:=ah hS
  have HI:=ah (And.intro hi hi1)
  clear hi hi1 hB hS
  obtain⟨k0,n0,s0,d0,CY⟩:=HB.out.ys;obtain⟨y0,y1,y2,y3⟩:=aA CY;clear CY
  obtain⟨e0,e1,e2,e3,e4,e5,e6,e7,e8⟩:=aI HB.out.t
  obtain⟨k1,n1,s1,d1,CP⟩:=HS.out;obtain⟨p0,p1,p2,p3⟩:=aA CP;clear CP
  obtain⟨mm,hmm⟩:∃mm,t.mx - t.mn=mm:=⟨_,rfl⟩
  have hw:wrap64 (t.mx - t.mn)=mm:=by rw[hmm];unfold wrap64;have:=HX2.out;have:=HM.out;omega
  have hw2:IntKind.i64.wrap (t.mx - t.mn)=mm:=by rw[IntKind.wrap_i64,hmm];have:=HX2.out;have:=HM.out;omega
  have HMM:=ah hmm
  clear hmm
  by_cases hlt:(i:Int)≤mm
  ·have hi3:(i:Int)≤1000:=by have h1:=HX2.out;have h2:=HM.out;have h3:=HMM.out;omega
   go_upto_region 13 with fail
   have HI2:=ah (show RowC (wr.alloc (.cells #[.int .i64 0,.int .i64 0,.int .i64 0,.int .i64 0,.int .i64 0,.int .i64 0,.int .i64 0] 134)) wr.heap.size from⟨0,0,0,0,0,0,0,Cells.new _ _ _⟩)
   have HB5:=ah (HB.out.nob ((Upd.refl Nob wr).alloc (.cells #[.int .i64 0,.int .i64 0,.int .i64 0,.int .i64 0,.int .i64 0,.int .i64 0,.int .i64 0] 134)))
   have HS5:=ah (HS.out.upd ((Upd.refl Nob wr).alloc (.cells #[.int .i64 0,.int .i64 0,.int .i64 0,.int .i64 0,.int .i64 0,.int .i64 0,.int .i64 0] 134)) aj)
   have HIB:=ah (show r < wr.heap.size∧q < wr.heap.size∧r < q from⟨HB.out.rs.lt,by obtain⟨_,_,_,_,h⟩:=HS.out;exact h.lt,HRQ.out⟩)
   clear HB HS y0 y1 y2 y3 e0 e1 e2 e3 e4 e5 e6 e7 e8 p0 p1 p2 p3
   have HB:=HB5
   have HS:=HS5
   clear HB5 HS5
   generalize wr.alloc (.cells #[.int .i64 0,.int .i64 0,.int .i64 0,.int .i64 0,.int .i64 0,.int .i64 0,.int .i64 0] 134)=w9 at *
   generalize wr.heap.size=ib at *
   obtain⟨k0,n0,s0,d0,CY⟩:=HB.out.ys;obtain⟨y0,y1,y2,y3⟩:=aA CY;clear CY
   obtain⟨k1,n1,s1,d1,CP⟩:=HS.out;obtain⟨p0,p1,p2,p3⟩:=aA CP;clear CP
   go_upto_region 14 with(go_at_call 81;refine(iR HI2.out _ _ _ _ _).mono ?_;rintro e w5 ⟨⟨v,rfl⟩,h5,hU5⟩;have HB:=ah (HB.out.upd hU5 (fun k e=>by have:=HIB.out;omega));have HS:=ah (HS.out.upd hU5 (by have:=HIB.out;omega));have HI2:=ah h5;clear h5 hU5;obtain⟨k0,n0,s0,d0,CY⟩:=HB.out.ys;obtain⟨y0,y1,y2,y3⟩:=aA CY;clear CY;obtain⟨k1,n1,s1,d1,CP⟩:=HS.out;obtain⟨p0,p1,p2,p3⟩:=aA CP;clear CP)
   go_upto_region 15 with(go_at_call 81;refine(iR HI2.out _ _ _ _ _).mono ?_;rintro e w5 ⟨⟨v,rfl⟩,h5,hU5⟩;have HB:=ah (HB.out.upd hU5 (fun k e=>by have:=HIB.out;omega));have HS:=ah (HS.out.upd hU5 (by have:=HIB.out;omega));have HI2:=ah h5;clear h5 hU5;obtain⟨k0,n0,s0,d0,CY⟩:=HB.out.ys;obtain⟨y0,y1,y2,y3⟩:=aA CY;clear CY;obtain⟨k1,n1,s1,d1,CP⟩:=HS.out;obtain⟨p0,p1,p2,p3⟩:=aA CP;clear CP)
   go_upto_region 16 with(go_at_call 83;refine(kH HI2.out).mono ?_;rintro e w11 ⟨k2,n2,s2,d2,rfl,hU5⟩;have HB:=ah (HB.out.nob hU5);have HS:=ah (HS.out.upd hU5 aj);clear hU5;unfold gX)
   have HXS:=ah (show SumC (w11.alloc (.cells #[.int .i64 k2,.int .i64 n2,.int .i64 s2,.int .i64 d2] 115)) w11.heap.size from⟨k2,n2,s2,d2,Cells.new _ _ _⟩)
   have HB5:=ah (HB.out.nob ((Upd.refl Nob w11).alloc (.cells #[.int .i64 k2,.int .i64 n2,.int .i64 s2,.int .i64 d2] 115)))
   have HS5:=ah (HS.out.upd ((Upd.refl Nob w11).alloc (.cells #[.int .i64 k2,.int .i64 n2,.int .i64 s2,.int .i64 d2] 115)) aj)
   have HXB:=ah (show r < w11.heap.size∧q < w11.heap.size from⟨HB.out.rs.lt,by obtain⟨_,_,_,_,h⟩:=HS.out;exact h.lt⟩)
   clear HB HS
   have HB:=HB5
   have HS:=HS5
   clear HB5 HS5
   generalize w11.alloc (.cells #[.int .i64 k2,.int .i64 n2,.int .i64 s2,.int .i64 d2] 115)=w12 at *
   generalize w11.heap.size=xb at *
   obtain⟨k0,n0,s0,d0,CY⟩:=HB.out.ys;obtain⟨y0,y1,y2,y3⟩:=aA CY;clear CY
   obtain⟨k3,n3,s3,d3,CX⟩:=HXS.out
   obtain⟨x0,x1,x2,x3⟩:=aA CX
   have zx0:=CX.frozen 0
   have zx1:=CX.frozen 1
   have zx2:=CX.frozen 2
   have zx3:=CX.frozen 3
   have HXC:=ah CX
   clear CX
   go_upto_region 18 with fail
   ·obtain⟨C9,U9⟩:=sum_put HXC.out (.int .i64 k0) (.int .i64 n0) (.int .i64 s0) (.int .i64 d0)
    have HB5:=ah (HB.out.upd U9 (fun k e=>by have:=HXB.out;omega))
    have HS5:=ah (HS.out.upd U9 (by have:=HXB.out;omega))
    clear HB HS y0 y1 y2 y3 x0 x1 x2 x3 zx0 zx1 zx2 zx3 U9
    have HB:=HB5
    have HS:=HS5
    clear HB5 HS5
    generalize (((w12.setCell ⟨xb,0,none⟩ (.int .i64 k0)).setCell ⟨xb,1,none⟩ (.int .i64 n0)).setCell ⟨xb,2,none⟩ (.int .i64 s0)).setCell ⟨xb,3,none⟩ (.int .i64 d0)=w13 at *
    obtain⟨x0,x1,x2,x3⟩:=aA C9
    clear C9
    go_wp2_with (go_at_call 79;refine(over7_some _ 6 _ _ _ _).mono ?_;rintro e w14 ⟨k4,n4,s4,d4,rfl,hU5⟩;have HB:=ah (HB.out.nob hU5);have HS:=ah (HS.out.upd hU5 aj);clear hU5;unfold gX;obtain⟨k1,n1,s1,d1,CP⟩:=HS.out;obtain⟨p0,p1,p2,p3⟩:=aA CP;have z0:=CP.frozen 0;have z1:=CP.frozen 1;have z2:=CP.frozen 2;have z3:=CP.frozen 3;have HCP:=ah CP;clear CP)
    obtain⟨C9,U9⟩:=sum_put HCP.out (.int .i64 k4) (.int .i64 n4) (.int .i64 s4) (.int .i64 d4)
    go_roundg (mm.toNat - i)
    case measure=>have:=HI.out;have:=HMM.out;omega
    case rel=>exact⟨i+1,by have:=HI.out;have:=HMM.out;omega,by omega,by go_num,HB.out.upd U9 (fun k e=>by have:=HXB.out;have:=HRQ.out;omega),⟨_,_,_,_,C9⟩⟩
   ·
    go_wp2_with (go_at_call 79;refine(over7_some _ 6 _ _ _ _).mono ?_;rintro e w14 ⟨k4,n4,s4,d4,rfl,hU5⟩;have HB:=ah (HB.out.nob hU5);have HS:=ah (HS.out.upd hU5 aj);clear hU5;unfold gX;obtain⟨k1,n1,s1,d1,CP⟩:=HS.out;obtain⟨p0,p1,p2,p3⟩:=aA CP;have z0:=CP.frozen 0;have z1:=CP.frozen 1;have z2:=CP.frozen 2;have z3:=CP.frozen 3;have HCP:=ah CP;clear CP)
    obtain⟨C9,U9⟩:=sum_put HCP.out (.int .i64 k4) (.int .i64 n4) (.int .i64 s4) (.int .i64 d4)
    go_roundg (mm.toNat - i)
    case measure=>have:=HI.out;have:=HMM.out;omega
    case rel=>exact⟨i+1,by have:=HI.out;have:=HMM.out;omega,by omega,by go_num,HB.out.upd U9 (fun k e=>by have:=HXB.out;have:=HRQ.out;omega),⟨_,_,_,_,C9⟩⟩
  ·go_upto_region 20 with(go_at_call 81;refine(iR HB.out.rs _ _ _ _ _).mono ?_;rintro e w5 ⟨⟨v,rfl⟩,h5,hU5⟩;have HB:=ah (HB.out.row hU5 h5);clear h5 hU5)
   go_wp2_with (go_at_call 83;refine(kH HB.out.rs).mono ?_;rintro e w5 ⟨k2,n2,s2,d2,rfl,hU5⟩;have HB:=ah (HB.out.nob hU5);clear hU5;unfold gX;obtain⟨ko,no,so,do_,CO⟩:=HB.out.os;obtain⟨o0,o1,o2,o3⟩:=aA CO;have z0:=CO.frozen 0;have z1:=CO.frozen 1;have z2:=CO.frozen 2;have z3:=CO.frozen 3;clear CO)
   obtain⟨ko,no,so,do_,CO⟩:=HB.out.os
   obtain⟨C9,U9⟩:=dN CO HB.out.u (by have:=HB.out.lo;omega) (.int .i64 k2) (.int .i64 n2) (.int .i64 s2) (.int .i64 d2)
   obtain⟨q0,q1,q2,q3⟩:=aA C9
   refine bodyPost_ret (by simp[results,Try.results80,go_sem,q0,q1,q2,q3];try rfl) rfl ?_
   exact HP.out _ _ _ _ _ U9
end Go.Proofs.Ytnkefclbchpafaa
