/-
  Begin, Begin7, Behind, put together.
-/
import Derived.Test.YtnkefclbchpafaaZ33TabN
import Derived.Deep.QuietTactic
import Derived.Deep.RegionHeld3
import Derived.Test.YtnkefclbchpafaaZ14Held
import Derived.Deep.AppendLies

/-
  The walk of heronref06's begin, where the place was not begun: by the node's kind. Printed by tools/mkBegin.py.
-/
namespace Go.Proofs.Ytnkefclbchpafaa
set_option maxRecDepth 100000
set_option maxHeartbeats 16000000
open Go.RowKit
set_option linter.unusedVariables false
theorem begin_met {F:Fx} {S:Nat→Prop} {cl n p:Nat} {c:List Int} {s:WSt} (hk:Tk F S cl) (hb:s.bg n p=true):Con F S cl 45 n p c s s:=by
 intro hn hp hc w OA oc CA cc hR hW hC
 have c3:=hW.wk.ak (i:=0+3) rfl
 have b3:=hR.bo n hn
 have e3:w.cell? ⟨F.bgb n,p,none⟩=some (.bool true):=by rw[←hb];exact(hW.bg n hn).ak (dM _ (by omega))
 obtain⟨M,hM⟩:∃M,F.xs.length+1=M:=⟨_,rfl⟩
 rw[hM] at b3
 have g1:(n:Int) < (F.l.length:Int):=by omega
 have g2:(p:Int) < (M:Int):=by omega
 have HW:=ah hW
 clear hW hM hC hR
 go_enter Try.func45,Try.ntmps45
 go_wp2_with fail
 try simp only[Exit.inBlock,Exit.then]
 refine bodyPost_ret (results_none rfl _ _ _) rfl ?_
 exact⟨rfl,OA,oc,.aM HW.out (Upd.refl _ _)⟩
def ConA (F:Fx) (S:Nat→Prop) (cl p:Nat) (c:List Int):List Nat→WSt→WSt→Prop
 | [],s,s'=>s'=s
 | m::r,s,s'=>∃s1,Con F S cl 45 m p c s s1∧ConA F S cl p c r s1 s'
theorem begin_1 {F:Fx} {S:Nat→Prop} {cl n p:Nat} {c:List Int} {s s':WSt} {x:PN} (hk:Tk F S cl) (hb:s.bg n p=false) (hx:F.l[n]?=some x) (hkd:x.kind=1) (hcon:Con F S cl 65 n p c { s with bg:=bT s.bg n p } s'):Con F S cl 45 n p c s s':=by
 intro hn hp hc w OA oc CA cc hR hW hC
 have c3:=hW.wk.ak (i:=0+3) rfl
 have b3:=hR.bo n hn
 have e3:w.cell? ⟨F.bgb n,p,none⟩=some (.bool false):=by rw[←hb];exact(hW.bg n hn).ak (dM _ (by omega))
 have f3:=(hW.bg n hn).frozen p
 have hN:=hW.jw (p:=p) hk.dis hn
 have hR1:=hR.mut hk.dis hW.lo hN.upd
 have hC1:=hC.nx hN
 obtain⟨RA,rc,SA,sc,q0,q1,q2,q3,q4,q5,q6,q7,hrs,hsub,hin,hin2⟩:=aS (hR1.node n x hx)
 obtain⟨w1,hw1⟩:∃w1,w.setCell ⟨F.bgb n,p,none⟩ (.bool true)=w1:=⟨_,rfl⟩
 rw[hw1] at hN hR1 hC1 q0 q1 q2 q3 q4 q5 q6 q7 hrs hsub
 have HW1:=ah hw1
 have m0:=hN.wk.wk.ak (i:=0) rfl
 have t0:=hR1.tab.ak (i:=0) rfl
 obtain⟨M,hM⟩:∃M,F.xs.length+1=M:=⟨_,rfl⟩
 rw[hM] at b3
 have g1:(n:Int) < (F.l.length:Int):=by omega
 have g2:(p:Int) < (M:Int):=by omega
 have hAl:Upd Nob w1 (w1.alloc (.cells (aD x RA rc SA sc) 119)):=(Upd.refl Nob w1).alloc _
 have HX:=ah (Cells.new w1 119 (aD x RA rc SA sc))
 have HR:=ah (hR1.upd hAl (fun _ _=>aj))
 have HN:=ah (hN.trans (Nx.aM hN.wk hAl))
 have HC:=ah (hC1.nx (Nx.aM hN.wk hAl))
 have HRS:=ah (hrs.upd hAl (fun _ _=>aj))
 have gU:=ah (hsub.upd hAl (fun _ _=>aj))
 have hnm:¬Mut F OA w1.heap.size:=fun hm=>by
  have:=hR1.base
  rcases hm with hm | hm
  ·have:=hk.dis.lt _ hm;omega
  ·have:=(hN.wk.out.lo hm).2;omega
 have HNM:=ah hnm
 have HLO:=ah hN.wk.lo
 have HKD:=ah hkd
 clear hR hW hC hsub hrs hnm hkd hN hR1 hC1 hM hb hw1
 go_enter Try.func45,Try.ntmps45
 go_upto_region 2 with fail
 rw[HW1.out]
 clear c3 b3 e3 f3
 go_upto_region 3 with fail
 change Code.wp _ _ _ _ (w1.alloc (.cells (aD x RA rc SA sc) 119))
 generalize w1.alloc (.cells (aD x RA rc SA sc) 119)=wa at *
 clear m0 t0 q0 q1 q2 q3 q4 q5 q6 q7
 generalize w1.heap.size=xb at *
 have y0:=HX.out.ak (i:=0) (v:=.int .i64 1) (by rw[←HKD.out];rfl)
 go_wp2_with (go_at_call 65;refine(hcon hn hp hc wa OA oc CA cc HR.out HN.out.wk HC.out).mono ?_;rintro e wb ⟨rfl,OA1,oc1,hX1⟩)
 go_end0
 exact⟨rfl,OA1,oc1,HN.out.trans hX1⟩
theorem begin_2y {F:Fx} {S:Nat→Prop} {cl n p:Nat} {c:List Int} {s s':WSt} {x:PN} (hk:Tk F S cl) (hb:s.bg n p=false) (hx:F.l[n]?=some x) (hkd:x.kind=2) (hlt:p < F.xs.length) (hfit:dI x.rs F.xs p=true) (hcon:Con F S cl 65 n (p+1) c { s with bg:=bT s.bg n p } s'):Con F S cl 45 n p c s s':=by
 intro hn hp hc w OA oc CA cc hR hW hC
 have c3:=hW.wk.ak (i:=0+3) rfl
 have b3:=hR.bo n hn
 have e3:w.cell? ⟨F.bgb n,p,none⟩=some (.bool false):=by rw[←hb];exact(hW.bg n hn).ak (dM _ (by omega))
 have f3:=(hW.bg n hn).frozen p
 have hN:=hW.jw (p:=p) hk.dis hn
 have hR1:=hR.mut hk.dis hW.lo hN.upd
 have hC1:=hC.nx hN
 obtain⟨RA,rc,SA,sc,q0,q1,q2,q3,q4,q5,q6,q7,hrs,hsub,hin,hin2⟩:=aS (hR1.node n x hx)
 obtain⟨w1,hw1⟩:∃w1,w.setCell ⟨F.bgb n,p,none⟩ (.bool true)=w1:=⟨_,rfl⟩
 rw[hw1] at hN hR1 hC1 q0 q1 q2 q3 q4 q5 q6 q7 hrs hsub
 have HW1:=ah hw1
 have m0:=hN.wk.wk.ak (i:=0) rfl
 have t0:=hR1.tab.ak (i:=0) rfl
 obtain⟨M,hM⟩:∃M,F.xs.length+1=M:=⟨_,rfl⟩
 rw[hM] at b3
 have g1:(n:Int) < (F.l.length:Int):=by omega
 have g2:(p:Int) < (M:Int):=by omega
 have hAl:Upd Nob w1 (w1.alloc (.cells (aD x RA rc SA sc) 119)):=(Upd.refl Nob w1).alloc _
 have HX:=ah (Cells.new w1 119 (aD x RA rc SA sc))
 have HR:=ah (hR1.upd hAl (fun _ _=>aj))
 have HN:=ah (hN.trans (Nx.aM hN.wk hAl))
 have HC:=ah (hC1.nx (Nx.aM hN.wk hAl))
 have HRS:=ah (hrs.upd hAl (fun _ _=>aj))
 have gU:=ah (hsub.upd hAl (fun _ _=>aj))
 have hnm:¬Mut F OA w1.heap.size:=fun hm=>by
  have:=hR1.base
  rcases hm with hm | hm
  ·have:=hk.dis.lt _ hm;omega
  ·have:=(hN.wk.out.lo hm).2;omega
 have HNM:=ah hnm
 have HLO:=ah hN.wk.lo
 have HKD:=ah hkd
 clear hR hW hC hsub hrs hnm hkd hN hR1 hC1 hM hb hw1
 go_enter Try.func45,Try.ntmps45
 go_upto_region 2 with fail
 rw[HW1.out]
 clear c3 b3 e3 f3
 go_upto_region 3 with fail
 change Code.wp _ _ _ _ (w1.alloc (.cells (aD x RA rc SA sc) 119))
 generalize w1.alloc (.cells (aD x RA rc SA sc) 119)=wa at *
 clear m0 t0 q0 q1 q2 q3 q4 q5 q6 q7
 generalize w1.heap.size=xb at *
 have y0:=HX.out.ak (i:=0) (v:=.int .i64 2) (by rw[←HKD.out];rfl)
 have y3:=HX.out.ak (i:=0+3) (v:=.slice RA x.rs.length rc) rfl
 have l1:=HN.out.wk.wk.ak (i:=0+1) rfl
 obtain⟨ad2,cx,hTA,hcx,hcI,hat⟩:=HR.out.text.at_ (k:=p) hlt
 have l9:=hat wa (Upd.refl _ _)
 have hq:hasB x.rs cx=true:=by rw[←hfit];unfold dI;rw[hcx]
 have hd:decide ((p:Int) < (F.xs.length:Int))=true:=decide_eq_true (by omega)
 have hjn:(p:Int) < (F.xs.length:Int):=by omega
 have HQ:=ah (show ∀q,Calls Try.prog 57 #[.slice RA x.rs.length rc,.int .i64 cx] (wa.drewN q) fun e w''=>e=.returned (.bool true)∧∃m,w''=wa.drewN m from fun q =>
  (ref_has (wa.drewN q) S RA x.rs.length rc x.rs (HRS.out.upd ((Upd.refl Nob wa).drewN q) (fun _ _=>aj)) cx hcI).mono (by
   rintro e w'' ⟨he,q2,rfl⟩
   exact⟨by rw[he,hq],by first | exact⟨_,rfl⟩ | exact fV _ _ _⟩))
 clear hfit hq hat hcx
 rw[hTA] at l1
 go_wp2_with fail
 go_quiet ((go_at_call 57;exact HQ.out _))
 have hp1:IntKind.i64.wrap ((p:Int)+1)=((p+1:Nat):Int):=by rw[IntKind.wrap_i64];have:=HR.out.short;omega
 go_wp2_with (go_at_call 65;refine(hcon hn (by omega) hc (wa.drewN _) OA oc CA cc (HR.out.upd ((Upd.refl Nob wa).drewN _) (fun _ _=>aj)) (HN.out.wk.upd ((Upd.refl Nob wa).drewN _)) (HC.out.nx (Nx.aM HN.out.wk ((Upd.refl Nob wa).drewN _)))).mono ?_;rintro e wb ⟨rfl,OA1,oc1,hX1⟩)
 go_end0
 exact⟨rfl,OA1,oc1,(HN.out.trans (Nx.aM HN.out.wk ((Upd.refl Nob wa).drewN _))).trans hX1⟩
theorem begin_2n {F:Fx} {S:Nat→Prop} {cl n p:Nat} {c:List Int} {s  : WSt} {x:PN} (hk:Tk F S cl) (hb:s.bg n p=false) (hx:F.l[n]?=some x) (hkd:x.kind=2) (hlt:p < F.xs.length) (hfit:dI x.rs F.xs p=false):Con F S cl 45 n p c s { s with bg:=bT s.bg n p }:=by
 intro hn hp hc w OA oc CA cc hR hW hC
 have c3:=hW.wk.ak (i:=0+3) rfl
 have b3:=hR.bo n hn
 have e3:w.cell? ⟨F.bgb n,p,none⟩=some (.bool false):=by rw[←hb];exact(hW.bg n hn).ak (dM _ (by omega))
 have f3:=(hW.bg n hn).frozen p
 have hN:=hW.jw (p:=p) hk.dis hn
 have hR1:=hR.mut hk.dis hW.lo hN.upd
 have hC1:=hC.nx hN
 obtain⟨RA,rc,SA,sc,q0,q1,q2,q3,q4,q5,q6,q7,hrs,hsub,hin,hin2⟩:=aS (hR1.node n x hx)
 obtain⟨w1,hw1⟩:∃w1,w.setCell ⟨F.bgb n,p,none⟩ (.bool true)=w1:=⟨_,rfl⟩
 rw[hw1] at hN hR1 hC1 q0 q1 q2 q3 q4 q5 q6 q7 hrs hsub
 have HW1:=ah hw1
 have m0:=hN.wk.wk.ak (i:=0) rfl
 have t0:=hR1.tab.ak (i:=0) rfl
 obtain⟨M,hM⟩:∃M,F.xs.length+1=M:=⟨_,rfl⟩
 rw[hM] at b3
 have g1:(n:Int) < (F.l.length:Int):=by omega
 have g2:(p:Int) < (M:Int):=by omega
 have hAl:Upd Nob w1 (w1.alloc (.cells (aD x RA rc SA sc) 119)):=(Upd.refl Nob w1).alloc _
 have HX:=ah (Cells.new w1 119 (aD x RA rc SA sc))
 have HR:=ah (hR1.upd hAl (fun _ _=>aj))
 have HN:=ah (hN.trans (Nx.aM hN.wk hAl))
 have HC:=ah (hC1.nx (Nx.aM hN.wk hAl))
 have HRS:=ah (hrs.upd hAl (fun _ _=>aj))
 have gU:=ah (hsub.upd hAl (fun _ _=>aj))
 have hnm:¬Mut F OA w1.heap.size:=fun hm=>by
  have:=hR1.base
  rcases hm with hm | hm
  ·have:=hk.dis.lt _ hm;omega
  ·have:=(hN.wk.out.lo hm).2;omega
 have HNM:=ah hnm
 have HLO:=ah hN.wk.lo
 have HKD:=ah hkd
 clear hR hW hC hsub hrs hnm hkd hN hR1 hC1 hM hb hw1
 go_enter Try.func45,Try.ntmps45
 go_upto_region 2 with fail
 rw[HW1.out]
 clear c3 b3 e3 f3
 go_upto_region 3 with fail
 change Code.wp _ _ _ _ (w1.alloc (.cells (aD x RA rc SA sc) 119))
 generalize w1.alloc (.cells (aD x RA rc SA sc) 119)=wa at *
 clear m0 t0 q0 q1 q2 q3 q4 q5 q6 q7
 generalize w1.heap.size=xb at *
 have y0:=HX.out.ak (i:=0) (v:=.int .i64 2) (by rw[←HKD.out];rfl)
 have y3:=HX.out.ak (i:=0+3) (v:=.slice RA x.rs.length rc) rfl
 have l1:=HN.out.wk.wk.ak (i:=0+1) rfl
 obtain⟨ad2,cx,hTA,hcx,hcI,hat⟩:=HR.out.text.at_ (k:=p) hlt
 have l9:=hat wa (Upd.refl _ _)
 have hq:hasB x.rs cx=false:=by rw[←hfit];unfold dI;rw[hcx]
 have hd:decide ((p:Int) < (F.xs.length:Int))=true:=decide_eq_true (by omega)
 have hjn:(p:Int) < (F.xs.length:Int):=by omega
 have HQ:=ah (show ∀q,Calls Try.prog 57 #[.slice RA x.rs.length rc,.int .i64 cx] (wa.drewN q) fun e w''=>e=.returned (.bool false)∧∃m,w''=wa.drewN m from fun q =>
  (ref_has (wa.drewN q) S RA x.rs.length rc x.rs (HRS.out.upd ((Upd.refl Nob wa).drewN q) (fun _ _=>aj)) cx hcI).mono (by
   rintro e w'' ⟨he,q2,rfl⟩
   exact⟨by rw[he,hq],by first | exact⟨_,rfl⟩ | exact fV _ _ _⟩))
 clear hfit hq hat hcx
 rw[hTA] at l1
 go_wp2_with fail
 go_quiet ((go_at_call 57;exact HQ.out _))
 go_wp2_with fail
 go_end0
 exact⟨rfl,OA,oc,HN.out.trans (Nx.aM HN.out.wk ((Upd.refl Nob wa).drewN _))⟩
theorem begin_2e {F:Fx} {S:Nat→Prop} {cl n p:Nat} {c:List Int} {s  : WSt} {x:PN} (hk:Tk F S cl) (hb:s.bg n p=false) (hx:F.l[n]?=some x) (hkd:x.kind=2) (hlt:¬p < F.xs.length):Con F S cl 45 n p c s { s with bg:=bT s.bg n p }:=by
 intro hn hp hc w OA oc CA cc hR hW hC
 have c3:=hW.wk.ak (i:=0+3) rfl
 have b3:=hR.bo n hn
 have e3:w.cell? ⟨F.bgb n,p,none⟩=some (.bool false):=by rw[←hb];exact(hW.bg n hn).ak (dM _ (by omega))
 have f3:=(hW.bg n hn).frozen p
 have hN:=hW.jw (p:=p) hk.dis hn
 have hR1:=hR.mut hk.dis hW.lo hN.upd
 have hC1:=hC.nx hN
 obtain⟨RA,rc,SA,sc,q0,q1,q2,q3,q4,q5,q6,q7,hrs,hsub,hin,hin2⟩:=aS (hR1.node n x hx)
 obtain⟨w1,hw1⟩:∃w1,w.setCell ⟨F.bgb n,p,none⟩ (.bool true)=w1:=⟨_,rfl⟩
 rw[hw1] at hN hR1 hC1 q0 q1 q2 q3 q4 q5 q6 q7 hrs hsub
 have HW1:=ah hw1
 have m0:=hN.wk.wk.ak (i:=0) rfl
 have t0:=hR1.tab.ak (i:=0) rfl
 obtain⟨M,hM⟩:∃M,F.xs.length+1=M:=⟨_,rfl⟩
 rw[hM] at b3
 have g1:(n:Int) < (F.l.length:Int):=by omega
 have g2:(p:Int) < (M:Int):=by omega
 have hAl:Upd Nob w1 (w1.alloc (.cells (aD x RA rc SA sc) 119)):=(Upd.refl Nob w1).alloc _
 have HX:=ah (Cells.new w1 119 (aD x RA rc SA sc))
 have HR:=ah (hR1.upd hAl (fun _ _=>aj))
 have HN:=ah (hN.trans (Nx.aM hN.wk hAl))
 have HC:=ah (hC1.nx (Nx.aM hN.wk hAl))
 have HRS:=ah (hrs.upd hAl (fun _ _=>aj))
 have gU:=ah (hsub.upd hAl (fun _ _=>aj))
 have hnm:¬Mut F OA w1.heap.size:=fun hm=>by
  have:=hR1.base
  rcases hm with hm | hm
  ·have:=hk.dis.lt _ hm;omega
  ·have:=(hN.wk.out.lo hm).2;omega
 have HNM:=ah hnm
 have HLO:=ah hN.wk.lo
 have HKD:=ah hkd
 clear hR hW hC hsub hrs hnm hkd hN hR1 hC1 hM hb hw1
 go_enter Try.func45,Try.ntmps45
 go_upto_region 2 with fail
 rw[HW1.out]
 clear c3 b3 e3 f3
 go_upto_region 3 with fail
 change Code.wp _ _ _ _ (w1.alloc (.cells (aD x RA rc SA sc) 119))
 generalize w1.alloc (.cells (aD x RA rc SA sc) 119)=wa at *
 clear m0 t0 q0 q1 q2 q3 q4 q5 q6 q7
 generalize w1.heap.size=xb at *
 have y0:=HX.out.ak (i:=0) (v:=.int .i64 2) (by rw[←HKD.out];rfl)
 have l1:=HN.out.wk.wk.ak (i:=0+1) rfl
 have hd:decide ((p:Int) < (F.xs.length:Int))=false:=decide_eq_false (by omega)
 have hjn:¬(p:Int) < (F.xs.length:Int):=by omega
 go_wp2_with fail
 go_quiet (fail)
 go_wp2_with fail
 go_end0
 exact⟨rfl,OA,oc,HN.out.trans (Nx.aM HN.out.wk ((Upd.refl Nob wa).drewN _))⟩
theorem begin_3y {F:Fx} {S:Nat→Prop} {cl n p:Nat} {c:List Int} {s s':WSt} {x:PN} (hk:Tk F S cl) (hb:s.bg n p=false) (hx:F.l[n]?=some x) (hkd:x.kind=3) (hfit:cZ x.asr (kP F.xs (p:Int))=true) (hcon:Con F S cl 65 n p c { s with bg:=bT s.bg n p } s'):Con F S cl 45 n p c s s':=by
 intro hn hp hc w OA oc CA cc hR hW hC
 have c3:=hW.wk.ak (i:=0+3) rfl
 have b3:=hR.bo n hn
 have e3:w.cell? ⟨F.bgb n,p,none⟩=some (.bool false):=by rw[←hb];exact(hW.bg n hn).ak (dM _ (by omega))
 have f3:=(hW.bg n hn).frozen p
 have hN:=hW.jw (p:=p) hk.dis hn
 have hR1:=hR.mut hk.dis hW.lo hN.upd
 have hC1:=hC.nx hN
 obtain⟨RA,rc,SA,sc,q0,q1,q2,q3,q4,q5,q6,q7,hrs,hsub,hin,hin2⟩:=aS (hR1.node n x hx)
 obtain⟨w1,hw1⟩:∃w1,w.setCell ⟨F.bgb n,p,none⟩ (.bool true)=w1:=⟨_,rfl⟩
 rw[hw1] at hN hR1 hC1 q0 q1 q2 q3 q4 q5 q6 q7 hrs hsub
 have HW1:=ah hw1
 have m0:=hN.wk.wk.ak (i:=0) rfl
 have t0:=hR1.tab.ak (i:=0) rfl
 obtain⟨M,hM⟩:∃M,F.xs.length+1=M:=⟨_,rfl⟩
 rw[hM] at b3
 have g1:(n:Int) < (F.l.length:Int):=by omega
 have g2:(p:Int) < (M:Int):=by omega
 have hAl:Upd Nob w1 (w1.alloc (.cells (aD x RA rc SA sc) 119)):=(Upd.refl Nob w1).alloc _
 have HX:=ah (Cells.new w1 119 (aD x RA rc SA sc))
 have HR:=ah (hR1.upd hAl (fun _ _=>aj))
 have HN:=ah (hN.trans (Nx.aM hN.wk hAl))
 have HC:=ah (hC1.nx (Nx.aM hN.wk hAl))
 have HRS:=ah (hrs.upd hAl (fun _ _=>aj))
 have gU:=ah (hsub.upd hAl (fun _ _=>aj))
 have hnm:¬Mut F OA w1.heap.size:=fun hm=>by
  have:=hR1.base
  rcases hm with hm | hm
  ·have:=hk.dis.lt _ hm;omega
  ·have:=(hN.wk.out.lo hm).2;omega
 have HNM:=ah hnm
 have HLO:=ah hN.wk.lo
 have HKD:=ah hkd
 clear hR hW hC hsub hrs hnm hkd hN hR1 hC1 hM hb hw1
 go_enter Try.func45,Try.ntmps45
 go_upto_region 2 with fail
 rw[HW1.out]
 clear c3 b3 e3 f3
 go_upto_region 3 with fail
 change Code.wp _ _ _ _ (w1.alloc (.cells (aD x RA rc SA sc) 119))
 generalize w1.alloc (.cells (aD x RA rc SA sc) 119)=wa at *
 clear m0 t0 q0 q1 q2 q3 q4 q5 q6 q7
 generalize w1.heap.size=xb at *
 have y0:=HX.out.ak (i:=0) (v:=.int .i64 3) (by rw[←HKD.out];rfl)
 have y1:=HX.out.ak (i:=0+1) (v:=.int .i64 x.asr) rfl
 have l1:=HN.out.wk.wk.ak (i:=0+1) rfl
 have hpt:kP F.xs (p:Int)=part F.xs p 6:=by unfold kP;rw[if_pos (by omega),Int.toNat_natCast]
 rw[hpt] at hfit
 have hpb:=eT F.xs p 6
 have hpI:In64 (part F.xs p 6):=by unfold In64;omega
 have HF:=ah hfit
 clear hfit hpt
 have HAT:=ah (refAt_in wa S F.TA F.xs.length F.tc p F.xs HR.out.text hp)
 generalize part F.xs p 6=pv at *
 go_wp2_with (first | (go_at_call 46;refine HAT.out.mono ?_;rintro e w5 ⟨rfl,hw5⟩;subst hw5) | (go_at_call 56;refine(refHolds_any _ x.asr pv hin hpI).mono ?_;rw[HF.out];rintro e w6 ⟨rfl,hw6⟩;subst hw6) | (go_at_call 65;refine(hcon hn hp hc _ OA oc CA cc HR.out HN.out.wk HC.out).mono ?_;rintro e wb ⟨rfl,OA1,oc1,hX1⟩))
 go_end0
 exact⟨rfl,OA1,oc1,HN.out.trans hX1⟩
theorem begin_3n {F:Fx} {S:Nat→Prop} {cl n p:Nat} {c:List Int} {s  : WSt} {x:PN} (hk:Tk F S cl) (hb:s.bg n p=false) (hx:F.l[n]?=some x) (hkd:x.kind=3) (hfit:cZ x.asr (kP F.xs (p:Int))=false):Con F S cl 45 n p c s { s with bg:=bT s.bg n p }:=by
 intro hn hp hc w OA oc CA cc hR hW hC
 have c3:=hW.wk.ak (i:=0+3) rfl
 have b3:=hR.bo n hn
 have e3:w.cell? ⟨F.bgb n,p,none⟩=some (.bool false):=by rw[←hb];exact(hW.bg n hn).ak (dM _ (by omega))
 have f3:=(hW.bg n hn).frozen p
 have hN:=hW.jw (p:=p) hk.dis hn
 have hR1:=hR.mut hk.dis hW.lo hN.upd
 have hC1:=hC.nx hN
 obtain⟨RA,rc,SA,sc,q0,q1,q2,q3,q4,q5,q6,q7,hrs,hsub,hin,hin2⟩:=aS (hR1.node n x hx)
 obtain⟨w1,hw1⟩:∃w1,w.setCell ⟨F.bgb n,p,none⟩ (.bool true)=w1:=⟨_,rfl⟩
 rw[hw1] at hN hR1 hC1 q0 q1 q2 q3 q4 q5 q6 q7 hrs hsub
 have HW1:=ah hw1
 have m0:=hN.wk.wk.ak (i:=0) rfl
 have t0:=hR1.tab.ak (i:=0) rfl
 obtain⟨M,hM⟩:∃M,F.xs.length+1=M:=⟨_,rfl⟩
 rw[hM] at b3
 have g1:(n:Int) < (F.l.length:Int):=by omega
 have g2:(p:Int) < (M:Int):=by omega
 have hAl:Upd Nob w1 (w1.alloc (.cells (aD x RA rc SA sc) 119)):=(Upd.refl Nob w1).alloc _
 have HX:=ah (Cells.new w1 119 (aD x RA rc SA sc))
 have HR:=ah (hR1.upd hAl (fun _ _=>aj))
 have HN:=ah (hN.trans (Nx.aM hN.wk hAl))
 have HC:=ah (hC1.nx (Nx.aM hN.wk hAl))
 have HRS:=ah (hrs.upd hAl (fun _ _=>aj))
 have gU:=ah (hsub.upd hAl (fun _ _=>aj))
 have hnm:¬Mut F OA w1.heap.size:=fun hm=>by
  have:=hR1.base
  rcases hm with hm | hm
  ·have:=hk.dis.lt _ hm;omega
  ·have:=(hN.wk.out.lo hm).2;omega
 have HNM:=ah hnm
 have HLO:=ah hN.wk.lo
 have HKD:=ah hkd
 clear hR hW hC hsub hrs hnm hkd hN hR1 hC1 hM hb hw1
 go_enter Try.func45,Try.ntmps45
 go_upto_region 2 with fail
 rw[HW1.out]
 clear c3 b3 e3 f3
 go_upto_region 3 with fail
 change Code.wp _ _ _ _ (w1.alloc (.cells (aD x RA rc SA sc) 119))
 generalize w1.alloc (.cells (aD x RA rc SA sc) 119)=wa at *
 clear m0 t0 q0 q1 q2 q3 q4 q5 q6 q7
 generalize w1.heap.size=xb at *
 have y0:=HX.out.ak (i:=0) (v:=.int .i64 3) (by rw[←HKD.out];rfl)
 have y1:=HX.out.ak (i:=0+1) (v:=.int .i64 x.asr) rfl
 have l1:=HN.out.wk.wk.ak (i:=0+1) rfl
 have hpt:kP F.xs (p:Int)=part F.xs p 6:=by unfold kP;rw[if_pos (by omega),Int.toNat_natCast]
 rw[hpt] at hfit
 have hpb:=eT F.xs p 6
 have hpI:In64 (part F.xs p 6):=by unfold In64;omega
 have HF:=ah hfit
 clear hfit hpt
 have HAT:=ah (refAt_in wa S F.TA F.xs.length F.tc p F.xs HR.out.text hp)
 generalize part F.xs p 6=pv at *
 go_wp2_with (first | (go_at_call 46;refine HAT.out.mono ?_;rintro e w5 ⟨rfl,hw5⟩;subst hw5) | (go_at_call 56;refine(refHolds_any _ x.asr pv hin hpI).mono ?_;rw[HF.out];rintro e w6 ⟨rfl,hw6⟩;subst hw6))
 go_end0
 exact⟨rfl,OA,oc,HN.out⟩
theorem begin_4 {F:Fx} {S:Nat→Prop} {cl n p:Nat} {c:List Int} {s s':WSt} {x:PN} (hk:Tk F S cl) (hb:s.bg n p=false) (hx:F.l[n]?=some x) (hkd:x.kind=4) (h0:x.subs≠[]) (hcon:Con F S cl 45 (aR x) p c { s with bg:=bT s.bg n p } s'):Con F S cl 45 n p c s s':=by
 intro hn hp hc w OA oc CA cc hR hW hC
 have c3:=hW.wk.ak (i:=0+3) rfl
 have b3:=hR.bo n hn
 have e3:w.cell? ⟨F.bgb n,p,none⟩=some (.bool false):=by rw[←hb];exact(hW.bg n hn).ak (dM _ (by omega))
 have f3:=(hW.bg n hn).frozen p
 have hN:=hW.jw (p:=p) hk.dis hn
 have hR1:=hR.mut hk.dis hW.lo hN.upd
 have hC1:=hC.nx hN
 obtain⟨RA,rc,SA,sc,q0,q1,q2,q3,q4,q5,q6,q7,hrs,hsub,hin,hin2⟩:=aS (hR1.node n x hx)
 obtain⟨w1,hw1⟩:∃w1,w.setCell ⟨F.bgb n,p,none⟩ (.bool true)=w1:=⟨_,rfl⟩
 rw[hw1] at hN hR1 hC1 q0 q1 q2 q3 q4 q5 q6 q7 hrs hsub
 have HW1:=ah hw1
 have m0:=hN.wk.wk.ak (i:=0) rfl
 have t0:=hR1.tab.ak (i:=0) rfl
 obtain⟨M,hM⟩:∃M,F.xs.length+1=M:=⟨_,rfl⟩
 rw[hM] at b3
 have g1:(n:Int) < (F.l.length:Int):=by omega
 have g2:(p:Int) < (M:Int):=by omega
 have hAl:Upd Nob w1 (w1.alloc (.cells (aD x RA rc SA sc) 119)):=(Upd.refl Nob w1).alloc _
 have HX:=ah (Cells.new w1 119 (aD x RA rc SA sc))
 have HR:=ah (hR1.upd hAl (fun _ _=>aj))
 have HN:=ah (hN.trans (Nx.aM hN.wk hAl))
 have HC:=ah (hC1.nx (Nx.aM hN.wk hAl))
 have HRS:=ah (hrs.upd hAl (fun _ _=>aj))
 have gU:=ah (hsub.upd hAl (fun _ _=>aj))
 have hnm:¬Mut F OA w1.heap.size:=fun hm=>by
  have:=hR1.base
  rcases hm with hm | hm
  ·have:=hk.dis.lt _ hm;omega
  ·have:=(hN.wk.out.lo hm).2;omega
 have HNM:=ah hnm
 have HLO:=ah hN.wk.lo
 have HKD:=ah hkd
 clear hR hW hC hsub hrs hnm hkd hN hR1 hC1 hM hb hw1
 go_enter Try.func45,Try.ntmps45
 go_upto_region 2 with fail
 rw[HW1.out]
 clear c3 b3 e3 f3
 go_upto_region 3 with fail
 change Code.wp _ _ _ _ (w1.alloc (.cells (aD x RA rc SA sc) 119))
 generalize w1.alloc (.cells (aD x RA rc SA sc) 119)=wa at *
 clear m0 t0 q0 q1 q2 q3 q4 q5 q6 q7
 generalize w1.heap.size=xb at *
 have y0:=HX.out.ak (i:=0) (v:=.int .i64 4) (by rw[←HKD.out];rfl)
 have y4:=HX.out.ak (i:=0+4) (v:=.slice SA x.subs.length sc) rfl
 obtain⟨sa,rfl,hsb,hsS,z0⟩:=sub_first gU.out h0
 have hsl:=hk.sub n x hx (aR x) (by obtain⟨a,r,e⟩:=List.exists_cons_of_ne_nil h0;simp[aR,e])
 have hpos:0 < x.subs.length:=List.length_pos_iff.2 h0
 have hposI:(0:Int) < (x.subs.length:Int):=by omega
 go_wp2_with (go_at_call 45;refine(hcon hsl hp hc wa OA oc CA cc HR.out HN.out.wk HC.out).mono ?_;rintro e wb ⟨rfl,OA1,oc1,hX1⟩)
 go_end0
 exact⟨rfl,OA1,oc1,HN.out.trans hX1⟩
theorem begin_102 {F:Fx} {S:Nat→Prop} {cl n p:Nat} {c:List Int} {s s':WSt} {x:PN} (hk:Tk F S cl) (hb:s.bg n p=false) (hx:F.l[n]?=some x) (hkd:x.kind=102) (h0:x.subs≠[]) (hcon:Con F S cl 45 (aR x) p c { s with bg:=bT s.bg n p } s'):Con F S cl 45 n p c s s':=by
 intro hn hp hc w OA oc CA cc hR hW hC
 have c3:=hW.wk.ak (i:=0+3) rfl
 have b3:=hR.bo n hn
 have e3:w.cell? ⟨F.bgb n,p,none⟩=some (.bool false):=by rw[←hb];exact(hW.bg n hn).ak (dM _ (by omega))
 have f3:=(hW.bg n hn).frozen p
 have hN:=hW.jw (p:=p) hk.dis hn
 have hR1:=hR.mut hk.dis hW.lo hN.upd
 have hC1:=hC.nx hN
 obtain⟨RA,rc,SA,sc,q0,q1,q2,q3,q4,q5,q6,q7,hrs,hsub,hin,hin2⟩:=aS (hR1.node n x hx)
 obtain⟨w1,hw1⟩:∃w1,w.setCell ⟨F.bgb n,p,none⟩ (.bool true)=w1:=⟨_,rfl⟩
 rw[hw1] at hN hR1 hC1 q0 q1 q2 q3 q4 q5 q6 q7 hrs hsub
 have HW1:=ah hw1
 have m0:=hN.wk.wk.ak (i:=0) rfl
 have t0:=hR1.tab.ak (i:=0) rfl
 obtain⟨M,hM⟩:∃M,F.xs.length+1=M:=⟨_,rfl⟩
 rw[hM] at b3
 have g1:(n:Int) < (F.l.length:Int):=by omega
 have g2:(p:Int) < (M:Int):=by omega
 have hAl:Upd Nob w1 (w1.alloc (.cells (aD x RA rc SA sc) 119)):=(Upd.refl Nob w1).alloc _
 have HX:=ah (Cells.new w1 119 (aD x RA rc SA sc))
 have HR:=ah (hR1.upd hAl (fun _ _=>aj))
 have HN:=ah (hN.trans (Nx.aM hN.wk hAl))
 have HC:=ah (hC1.nx (Nx.aM hN.wk hAl))
 have HRS:=ah (hrs.upd hAl (fun _ _=>aj))
 have gU:=ah (hsub.upd hAl (fun _ _=>aj))
 have hnm:¬Mut F OA w1.heap.size:=fun hm=>by
  have:=hR1.base
  rcases hm with hm | hm
  ·have:=hk.dis.lt _ hm;omega
  ·have:=(hN.wk.out.lo hm).2;omega
 have HNM:=ah hnm
 have HLO:=ah hN.wk.lo
 have HKD:=ah hkd
 clear hR hW hC hsub hrs hnm hkd hN hR1 hC1 hM hb hw1
 go_enter Try.func45,Try.ntmps45
 go_upto_region 2 with fail
 rw[HW1.out]
 clear c3 b3 e3 f3
 go_upto_region 3 with fail
 change Code.wp _ _ _ _ (w1.alloc (.cells (aD x RA rc SA sc) 119))
 generalize w1.alloc (.cells (aD x RA rc SA sc) 119)=wa at *
 clear m0 t0 q0 q1 q2 q3 q4 q5 q6 q7
 generalize w1.heap.size=xb at *
 have y0:=HX.out.ak (i:=0) (v:=.int .i64 102) (by rw[←HKD.out];rfl)
 have y4:=HX.out.ak (i:=0+4) (v:=.slice SA x.subs.length sc) rfl
 obtain⟨sa,rfl,hsb,hsS,z0⟩:=sub_first gU.out h0
 have hsl:=hk.sub n x hx (aR x) (by obtain⟨a,r,e⟩:=List.exists_cons_of_ne_nil h0;simp[aR,e])
 have hpos:0 < x.subs.length:=List.length_pos_iff.2 h0
 have hposI:(0:Int) < (x.subs.length:Int):=by omega
 go_wp2_with (go_at_call 45;refine(hcon hsl hp hc wa OA oc CA cc HR.out HN.out.wk HC.out).mono ?_;rintro e wb ⟨rfl,OA1,oc1,hX1⟩)
 go_end0
 exact⟨rfl,OA1,oc1,HN.out.trans hX1⟩
theorem begin_103 {F:Fx} {S:Nat→Prop} {cl n p:Nat} {c:List Int} {s s':WSt} {x:PN} (hk:Tk F S cl) (hb:s.bg n p=false) (hx:F.l[n]?=some x) (hkd:x.kind=103) (hcon:Con F S cl 67 n p c { s with bg:=bT s.bg n p } s'):Con F S cl 45 n p c s s':=by
 intro hn hp hc w OA oc CA cc hR hW hC
 have c3:=hW.wk.ak (i:=0+3) rfl
 have b3:=hR.bo n hn
 have e3:w.cell? ⟨F.bgb n,p,none⟩=some (.bool false):=by rw[←hb];exact(hW.bg n hn).ak (dM _ (by omega))
 have f3:=(hW.bg n hn).frozen p
 have hN:=hW.jw (p:=p) hk.dis hn
 have hR1:=hR.mut hk.dis hW.lo hN.upd
 have hC1:=hC.nx hN
 obtain⟨RA,rc,SA,sc,q0,q1,q2,q3,q4,q5,q6,q7,hrs,hsub,hin,hin2⟩:=aS (hR1.node n x hx)
 obtain⟨w1,hw1⟩:∃w1,w.setCell ⟨F.bgb n,p,none⟩ (.bool true)=w1:=⟨_,rfl⟩
 rw[hw1] at hN hR1 hC1 q0 q1 q2 q3 q4 q5 q6 q7 hrs hsub
 have HW1:=ah hw1
 have m0:=hN.wk.wk.ak (i:=0) rfl
 have t0:=hR1.tab.ak (i:=0) rfl
 obtain⟨M,hM⟩:∃M,F.xs.length+1=M:=⟨_,rfl⟩
 rw[hM] at b3
 have g1:(n:Int) < (F.l.length:Int):=by omega
 have g2:(p:Int) < (M:Int):=by omega
 have hAl:Upd Nob w1 (w1.alloc (.cells (aD x RA rc SA sc) 119)):=(Upd.refl Nob w1).alloc _
 have HX:=ah (Cells.new w1 119 (aD x RA rc SA sc))
 have HR:=ah (hR1.upd hAl (fun _ _=>aj))
 have HN:=ah (hN.trans (Nx.aM hN.wk hAl))
 have HC:=ah (hC1.nx (Nx.aM hN.wk hAl))
 have HRS:=ah (hrs.upd hAl (fun _ _=>aj))
 have gU:=ah (hsub.upd hAl (fun _ _=>aj))
 have hnm:¬Mut F OA w1.heap.size:=fun hm=>by
  have:=hR1.base
  rcases hm with hm | hm
  ·have:=hk.dis.lt _ hm;omega
  ·have:=(hN.wk.out.lo hm).2;omega
 have HNM:=ah hnm
 have HLO:=ah hN.wk.lo
 have HKD:=ah hkd
 clear hR hW hC hsub hrs hnm hkd hN hR1 hC1 hM hb hw1
 go_enter Try.func45,Try.ntmps45
 go_upto_region 2 with fail
 rw[HW1.out]
 clear c3 b3 e3 f3
 go_upto_region 3 with fail
 change Code.wp _ _ _ _ (w1.alloc (.cells (aD x RA rc SA sc) 119))
 generalize w1.alloc (.cells (aD x RA rc SA sc) 119)=wa at *
 clear m0 t0 q0 q1 q2 q3 q4 q5 q6 q7
 generalize w1.heap.size=xb at *
 have y0:=HX.out.ak (i:=0) (v:=.int .i64 103) (by rw[←HKD.out];rfl)
 go_wp2_with (go_at_call 67;refine(hcon hn hp hc wa OA oc CA cc HR.out HN.out.wk HC.out).mono ?_;rintro e wb ⟨rfl,OA1,oc1,hX1⟩)
 go_end0
 exact⟨rfl,OA1,oc1,HN.out.trans hX1⟩
theorem begin_101 {F:Fx} {S:Nat→Prop} {cl n p:Nat} {c:List Int} {s s':WSt} {x:PN} (hk:Tk F S cl) (hb:s.bg n p=false) (hx:F.l[n]?=some x) (hkd:x.kind=101) (hcon:Con F S cl 68 n p c { s with bg:=bT s.bg n p } s'):Con F S cl 45 n p c s s':=by
 intro hn hp hc w OA oc CA cc hR hW hC
 have c3:=hW.wk.ak (i:=0+3) rfl
 have b3:=hR.bo n hn
 have e3:w.cell? ⟨F.bgb n,p,none⟩=some (.bool false):=by rw[←hb];exact(hW.bg n hn).ak (dM _ (by omega))
 have f3:=(hW.bg n hn).frozen p
 have hN:=hW.jw (p:=p) hk.dis hn
 have hR1:=hR.mut hk.dis hW.lo hN.upd
 have hC1:=hC.nx hN
 obtain⟨RA,rc,SA,sc,q0,q1,q2,q3,q4,q5,q6,q7,hrs,hsub,hin,hin2⟩:=aS (hR1.node n x hx)
 obtain⟨w1,hw1⟩:∃w1,w.setCell ⟨F.bgb n,p,none⟩ (.bool true)=w1:=⟨_,rfl⟩
 rw[hw1] at hN hR1 hC1 q0 q1 q2 q3 q4 q5 q6 q7 hrs hsub
 have HW1:=ah hw1
 have m0:=hN.wk.wk.ak (i:=0) rfl
 have t0:=hR1.tab.ak (i:=0) rfl
 obtain⟨M,hM⟩:∃M,F.xs.length+1=M:=⟨_,rfl⟩
 rw[hM] at b3
 have g1:(n:Int) < (F.l.length:Int):=by omega
 have g2:(p:Int) < (M:Int):=by omega
 have hAl:Upd Nob w1 (w1.alloc (.cells (aD x RA rc SA sc) 119)):=(Upd.refl Nob w1).alloc _
 have HX:=ah (Cells.new w1 119 (aD x RA rc SA sc))
 have HR:=ah (hR1.upd hAl (fun _ _=>aj))
 have HN:=ah (hN.trans (Nx.aM hN.wk hAl))
 have HC:=ah (hC1.nx (Nx.aM hN.wk hAl))
 have HRS:=ah (hrs.upd hAl (fun _ _=>aj))
 have gU:=ah (hsub.upd hAl (fun _ _=>aj))
 have hnm:¬Mut F OA w1.heap.size:=fun hm=>by
  have:=hR1.base
  rcases hm with hm | hm
  ·have:=hk.dis.lt _ hm;omega
  ·have:=(hN.wk.out.lo hm).2;omega
 have HNM:=ah hnm
 have HLO:=ah hN.wk.lo
 have HKD:=ah hkd
 clear hR hW hC hsub hrs hnm hkd hN hR1 hC1 hM hb hw1
 go_enter Try.func45,Try.ntmps45
 go_upto_region 2 with fail
 rw[HW1.out]
 clear c3 b3 e3 f3
 go_upto_region 3 with fail
 change Code.wp _ _ _ _ (w1.alloc (.cells (aD x RA rc SA sc) 119))
 generalize w1.alloc (.cells (aD x RA rc SA sc) 119)=wa at *
 clear m0 t0 q0 q1 q2 q3 q4 q5 q6 q7
 generalize w1.heap.size=xb at *
 have y0:=HX.out.ak (i:=0) (v:=.int .i64 101) (by rw[←HKD.out];rfl)
 go_wp2_with (go_at_call 68;refine(hcon hn hp hc wa OA oc CA cc HR.out HN.out.wk HC.out).mono ?_;rintro e wb ⟨rfl,OA1,oc1,hX1⟩)
 go_end0
 exact⟨rfl,OA1,oc1,HN.out.trans hX1⟩
theorem begin_5 {F:Fx} {S:Nat→Prop} {cl n p:Nat} {c:List Int} {s s':WSt} {x:PN} (hk:Tk F S cl) (hb:s.bg n p=false) (hx:F.l[n]?=some x) (hkd:x.kind=5) (hcon:ConA F S cl p c x.subs { s with bg:=bT s.bg n p } s'):Con F S cl 45 n p c s s':=by
 intro hn hp hc w OA oc CA cc hR hW hC
 have c3:=hW.wk.ak (i:=0+3) rfl
 have b3:=hR.bo n hn
 have e3:w.cell? ⟨F.bgb n,p,none⟩=some (.bool false):=by rw[←hb];exact(hW.bg n hn).ak (dM _ (by omega))
 have f3:=(hW.bg n hn).frozen p
 have hN:=hW.jw (p:=p) hk.dis hn
 have hR1:=hR.mut hk.dis hW.lo hN.upd
 have hC1:=hC.nx hN
 obtain⟨RA,rc,SA,sc,q0,q1,q2,q3,q4,q5,q6,q7,hrs,hsub,hin,hin2⟩:=aS (hR1.node n x hx)
 obtain⟨w1,hw1⟩:∃w1,w.setCell ⟨F.bgb n,p,none⟩ (.bool true)=w1:=⟨_,rfl⟩
 rw[hw1] at hN hR1 hC1 q0 q1 q2 q3 q4 q5 q6 q7 hrs hsub
 have HW1:=ah hw1
 have m0:=hN.wk.wk.ak (i:=0) rfl
 have t0:=hR1.tab.ak (i:=0) rfl
 obtain⟨M,hM⟩:∃M,F.xs.length+1=M:=⟨_,rfl⟩
 rw[hM] at b3
 have g1:(n:Int) < (F.l.length:Int):=by omega
 have g2:(p:Int) < (M:Int):=by omega
 have hAl:Upd Nob w1 (w1.alloc (.cells (aD x RA rc SA sc) 119)):=(Upd.refl Nob w1).alloc _
 have HX:=ah (Cells.new w1 119 (aD x RA rc SA sc))
 have HR:=ah (hR1.upd hAl (fun _ _=>aj))
 have HN:=ah (hN.trans (Nx.aM hN.wk hAl))
 have HC:=ah (hC1.nx (Nx.aM hN.wk hAl))
 have HRS:=ah (hrs.upd hAl (fun _ _=>aj))
 have gU:=ah (hsub.upd hAl (fun _ _=>aj))
 have hnm:¬Mut F OA w1.heap.size:=fun hm=>by
  have:=hR1.base
  rcases hm with hm | hm
  ·have:=hk.dis.lt _ hm;omega
  ·have:=(hN.wk.out.lo hm).2;omega
 have HNM:=ah hnm
 have HLO:=ah hN.wk.lo
 have HKD:=ah hkd
 clear hR hW hC hsub hrs hnm hkd hN hR1 hC1 hM hb hw1
 go_enter Try.func45,Try.ntmps45
 go_upto_region 2 with fail
 rw[HW1.out]
 clear c3 b3 e3 f3
 go_upto_region 3 with fail
 change Code.wp _ _ _ _ (w1.alloc (.cells (aD x RA rc SA sc) 119))
 generalize w1.alloc (.cells (aD x RA rc SA sc) 119)=wa at *
 clear m0 t0 q0 q1 q2 q3 q4 q5 q6 q7
 generalize w1.heap.size=xb at *
 have y0:=HX.out.ak (i:=0) (v:=.int .i64 5) (by rw[←HKD.out];rfl)
 have HSB:=ah gU.out
 have HCON:=ah hcon
 have HHC:=ah hc
 clear hcon hc
 go_wp2_with fail
 go_loopg [12] x.subs.length (fun gk v12 wr=>∃(i:Nat) (sc0:WSt) (OAi:Option Addr) (oci:Nat),i+gk=x.subs.length∧v12=.int .i64 (i:Int)∧ConA F S cl p c (x.subs.drop i) sc0 s'∧Nx F w sc0 OA wr OAi oci∧Cells wr xb 119 (aD x RA rc SA sc)∧Rd F S wr∧CapW wr F OAi CA c∧Reads wr S 1 SA x.subs.length (bn (x.subs.map fun(s:Nat)=>(s:Int)))∧xb < wr.heap.size)
 case atStart=>exact⟨0,_,OA,oc,by omega,rfl,HCON.out,HN.out,HX.out,HR.out,HC.out,HSB.out,HX.out.lt⟩
 case round =>
  clear HN HX HR HC HSB HRS gU HCON y0
  obtain⟨i,sc0,OAi,oci,hk2,rfl,hA,hN,hX,hR,hC,hS,hxl⟩:=hrel
  have HA:=ah hA
  have HN:=ah hN
  have HX:=ah hX
  have HR:=ah hR
  have HC:=ah hC
  have HS:=ah hS
  have HK:=ah hk2
  have y4:=hX.ak (i:=0+4) (v:=.slice SA x.subs.length sc) rfl
  have hsl:=(hk.nth n x hx).2.2.2
  clear hA hN hX hR hC hS hk2
  by_cases hlt:i < x.subs.length
  ·obtain⟨ad,hSA,hadb,hadS,hcell⟩:=HS.out.2 (by omega)
   have hm:x.subs[i]?=some (x.subs[i]'hlt):=List.getElem?_eq_getElem hlt
   have z0:=hcell i (.int .i64 ((x.subs[i]'hlt:Nat):Int)) (by simp[bn,hlt])
   have hsub:=hk.sub n x hx _ (List.mem_of_getElem? hm)
   have hd:x.subs.drop i=(x.subs[i]'hlt)::x.subs.drop (i+1):=List.drop_eq_getElem_cons hlt
   have hA2:=HA.out
   rw[hd] at hA2
   obtain⟨s1,hB,hrest⟩:=hA2
   have HRE:=ah hrest
   have HB:=ah hB
   have q1:(i:Int) < (x.subs.length:Int):=by omega
   generalize (x.subs[i]'hlt)=m at *
   rw[hSA] at y4
   clear hm hd hrest hB hcell hSA
   go_wp2_with (go_at_call 45;refine(HB.out hsub hp HHC.out wr OAi oci CA cc HR.out HN.out.wk HC.out).mono ?_;rintro e wb ⟨rfl,OA1,oc1,hX1⟩)
   have hlo:∀b,OAi.map (·.block)=some b→F.base≤b:=HN.out.wk.lo
   have hnm2:¬Mut F OAi xb:=fun hm=>by
    rcases hm with hm | hm
    ·exact HNM.out (.inl hm)
    ·exact HN.out.wk.out.ne_ HX.out (by decide) hm
   go_roundg (x.subs.length - (i+1))
   case measure=>have:=HK.out;omega
   case rel=>exact⟨i+1,s1,OA1,oc1,by have:=HK.out;omega,by go_num,HRE.out,HN.out.trans hX1,HX.out.upd hX1.upd hnm2,HR.out.mut hk.dis hlo hX1.upd,HC.out.nx hX1,HS.out.upd hX1.upd (fun b hb hm=>by
     have:=hk.dis.s b hb
     rcases hm with hm | hm
     ·exact this.2 hm
     ·have:=hlo b hm;omega),Nat.lt_of_lt_of_le hxl hX1.upd.size⟩
  ·have q1:¬(i:Int) < (x.subs.length:Int):=by omega
   have hA2:=HA.out
   rw[List.drop_eq_nil_of_le (by omega)] at hA2
   have hA3:s'=sc0:=hA2
   subst hA3
   clear hA2 hlt
   go_wp2_with fail
   go_end0
   exact⟨rfl,OAi,oci,HN.out⟩
end Go.Proofs.Ytnkefclbchpafaa

/-
  The walk of heronref06's begin at a group. Printed by tools/mkBegin7.py.
-/
namespace Go.Proofs.Ytnkefclbchpafaa
set_option maxRecDepth 100000
set_option maxHeartbeats 16000000
open Go.RowKit
set_option linter.unusedVariables false
theorem begin_reg24 (Q:Exit→Act→World→Prop) (wr:World) (SC:Nat→Prop) (wb xb ln sc cl cc kk sb p:Nat) (sa:Addr) (ix:Int) (CA:Option Addr) (c:List Int) (G:World→World→Prop) (x1 x4 x5 x6 x7 x9 x10 x11 x12 x13 x14 x15 x16 x17 x18 x19 x20 x21 x22 x23 x24 x25 x26 x27 x28 x29 x30 x31 x32 x33 x34 x35 x36 x37 x38 x39 x40 x41 x42 x43 x44 x45 x46 x47 x48 x49 x50 x51 x52 x53 x54 x55 x56 x57 x58 x59 x60 x61 x62 x63 x64 x65 x66 x67 x68 x69 x70 x71 x72 x73 x74 x75 x76 x77 x78 x79 x80 x81 x82 x83 x84 x85 x86 x87 x88 x89 x90 x91 x92 x93 x94 x95 x96 x97 x98 x99 x100 x101 x102 x103 x104 x105 x106 x107 x108 x109 x110 x111 x112 x113 x114 x115 x116 x117 x118 x119 x120 x121 x122 x123 x124 x125 x126 x127 x128 x129 x130 x131 x132 x133 x134 x135 x136 x137 x138 x139 x140 x141 x142 x143 x144 x145 x146 x147 x148 x149 x150 x151 x152 x153 x154:Value)
  (hcl:c.length=cl) (h4:cl≤4000) (y4:wr.cell? ⟨xb,0+4,none⟩=some (.slice (some sa) ln sc)) (y2:wr.cell? ⟨xb,0+2,none⟩=some (.int .i64 ix)) (z0:wr.cell? sa=some (.int .i64 (sb:Nat)))
  (hxb:xb < wr.heap.size) (hsa:sa.block < wr.heap.size) (hln:(0:Int) < (ln:Int)) (hix:IntKind.i64.wrap (2*ix)=(kk:Int)) (hkk:kk < c.length) (hC:Reads wr SC 1 CA c.length (bn c))
  (hB:∀(wq:World) (g cap:Nat),Upd Nob wr wq→wr.heap.size≤g→wq.ownsRow wr.heap.size 3 1 (.slice (some ⟨g,0,none⟩) c.length cap) c.length (bn (c.set kk (p:Int)))→Calls Try.prog 45 #[.pointer (some ⟨wb,0,none⟩),.int .i64 (sb:Int),.int .i64 (p:Int),.slice (some ⟨g,0,none⟩) c.length cap] wq (fun e w'=>e=.returned (.tuple #[])∧G wq w'))
  (hkeep:∀wq w',Upd Nob wr wq→G wq w'→w'.cell? ⟨xb,0+4,none⟩=some (.slice (some sa) ln sc)∧w'.cell? ⟨xb,0+2,none⟩=some (.int .i64 ix)∧w'.cell? sa=some (.int .i64 (sb:Nat)))
  (hnext:∀(v128 v129 v130 v131 v132 v133 v134 v135 v136 v137 v138 v139 v140:Value) (wq w':World),Upd Nob wr wq→G wq w'→Q .normal ⟨#[.pointer (some ⟨wb,0,none⟩),x1,.int .i64 (p:Int),.slice CA cl cc,x4,x5,x6,x7,.pointer (some ⟨xb,0,none⟩),x9,x10,x11,x12,x13,x14,x15,x16,x17,x18,x19,x20,x21,x22,x23,x24,x25,x26,x27,x28,x29,x30,x31,x32,x33,x34,x35,x36,x37,x38,x39,x40,x41,x42,x43,x44,x45,x46,x47,x48,x49,x50,x51,x52,x53,x54,x55,x56,x57,x58,x59,x60,x61,x62,x63,x64,x65,x66,x67,x68,x69,x70,x71,x72,x73,x74,x75,x76,x77,x78,x79,x80,x81,x82,x83,x84,x85,x86,x87,x88,x89,x90,x91,x92,x93,x94,x95,x96,x97,x98,x99,x100,x101,x102,x103,x104,x105,x106,x107,x108,x109,x110,x111,x112,x113,x114,x115,x116,x117,x118,x119,x120,x121,x122,x123,x124,x125,x126,x127,v128,v129,v130,v131,v132,v133,v134,v135,v136,v137,v138,v139,v140,x141,x142,x143,x144,x145,x146,x147,x148,x149,x150,x151,x152,x153,x154],[]⟩ w') :
  (Code.region 24 #[{ dst:=some 128,op:=Op.move (Operand.tmp 0),type:=97,pos:= "ref.go:186",after:=#[],guard:=none },
  { dst:=some 129,op:=Op.fieldAddr 119 (Operand.tmp 8) 4,type:=0,pos:= "ref.go:186",after:=#[],guard:=none },
  { dst:=some 130,op:=Op.load 28 (Operand.tmp 129),type:=28,pos:= "ref.go:186",after:=#[{ on:=1,ground:=.data }],guard:=none },
  { dst:=some 131,op:=Op.indexAddr 28 (Operand.tmp 130) (Operand.const (Value.int IntKind.i64 0)),type:=0,pos:= "ref.go:186",after:=#[{ on:=2,ground:=.data }],guard:=none },
  { dst:=some 132,op:=Op.load 3 (Operand.tmp 131),type:=3,pos:= "ref.go:186",after:=#[{ on:=3,ground:=.data }],guard:=none },
  { dst:=some 133,op:=Op.move (Operand.tmp 2),type:=3,pos:= "ref.go:186",after:=#[],guard:=none },
  { dst:=some 134,op:=Op.move (Operand.tmp 3),type:=28,pos:= "ref.go:186",after:=#[],guard:=none },
  { dst:=some 135,op:=Op.fieldAddr 119 (Operand.tmp 8) 2,type:=0,pos:= "ref.go:186",after:=#[],guard:=none },
  { dst:=some 136,op:=Op.load 3 (Operand.tmp 135),type:=3,pos:= "ref.go:186",after:=#[{ on:=7,ground:=.data }],guard:=none },
  { dst:=some 137,op:=Op.binOp BinOp.mul 3 (Operand.const (Value.int IntKind.i64 2)) (Operand.tmp 136) 3,type:=3,pos:= "ref.go:186",after:=#[{ on:=8,ground:=.data }],guard:=none },
  { dst:=some 138,op:=Op.move (Operand.tmp 2),type:=3,pos:= "ref.go:186",after:=#[],guard:=none },
  { dst:=some 139,op:=Op.call { callee:=Callee.value (Operand.func 66),args:=#[Operand.tmp 134,Operand.tmp 137,Operand.tmp 138],argTypes:=#[28, 3, 3] },type:=28,pos:= "ref.go:186",after:=#[{ on:=6,ground:=.data },{ on:=9,ground:=.data },{ on:=10,ground:=.data }],guard:=none },
  { dst:=some 140,op:=Op.call { callee:=Callee.value (Operand.func 45),args:=#[Operand.tmp 128,Operand.tmp 132,Operand.tmp 133,Operand.tmp 139],argTypes:=#[97, 3, 3, 28] },type:=0,pos:= "ref.go:186",after:=#[{ on:=0,ground:=.data },{ on:=4,ground:=.data },{ on:=5,ground:=.data },{ on:=11,ground:=.data },{ on:=11,ground:=.chain }],guard:=none }] true).wp Try.prog Q ⟨#[.pointer (some ⟨wb,0,none⟩),x1,.int .i64 (p:Int),.slice CA cl cc,x4,x5,x6,x7,.pointer (some ⟨xb,0,none⟩),x9,x10,x11,x12,x13,x14,x15,x16,x17,x18,x19,x20,x21,x22,x23,x24,x25,x26,x27,x28,x29,x30,x31,x32,x33,x34,x35,x36,x37,x38,x39,x40,x41,x42,x43,x44,x45,x46,x47,x48,x49,x50,x51,x52,x53,x54,x55,x56,x57,x58,x59,x60,x61,x62,x63,x64,x65,x66,x67,x68,x69,x70,x71,x72,x73,x74,x75,x76,x77,x78,x79,x80,x81,x82,x83,x84,x85,x86,x87,x88,x89,x90,x91,x92,x93,x94,x95,x96,x97,x98,x99,x100,x101,x102,x103,x104,x105,x106,x107,x108,x109,x110,x111,x112,x113,x114,x115,x116,x117,x118,x119,x120,x121,x122,x123,x124,x125,x126,x127,x128,x129,x130,x131,x132,x133,x134,x135,x136,x137,x138,x139,x140,x141,x142,x143,x144,x145,x146,x147,x148,x149,x150,x151,x152,x153,x154],[]⟩ wr:=by
 have HB:=ah hB
 have HY:=ah hnext
 have HC:=ah (show Reads wr.drew SC 1 CA c.length (bn c) from hC)
 clear hB hnext hC
 subst hcl
 have hlnN:0 < ln:=by omega
 have HS0:=ah (show(fun w':World=>w'.cell? ⟨xb,0+4,none⟩=some (.slice (some sa) ln sc)∧w'.cell? ⟨xb,0+2,none⟩=some (.int .i64 ix)∧w'.cell? sa=some (.int .i64 (sb:Nat))) wr from⟨y4,y2,z0⟩)
 go_region_held3 (fun w':World=>w'.cell? ⟨xb,0+4,none⟩=some (.slice (some sa) ln sc)∧w'.cell? ⟨xb,0+2,none⟩=some (.int .i64 ix)∧w'.cell? sa=some (.int .i64 (sb:Nat)))
  (first | exact HS0.out | exact HS1.out | exact HS2.out)
  (first
  | (go_at_call 66;refine(noted_any _ SC CA cc c kk p HC.out hkk (by omega)).mono ?_;rintro e wq ⟨g,cap,rfl,hg,hO,hU⟩;have hUq:=((Upd.refl Nob wr).drew).trans hU (fun _ _ h=>h);have HUq:=ah hUq;have HG:=ah hg;have HO:=ah hO;have HS1:=ah (show(fun w':World=>w'.cell? ⟨xb,0+4,none⟩=some (.slice (some sa) ln sc)∧w'.cell? ⟨xb,0+2,none⟩=some (.int .i64 ix)∧w'.cell? sa=some (.int .i64 (sb:Nat))) wq from⟨(hUq.cell (p:=⟨xb,0+4,none⟩) hxb aj).trans HS0.out.1,(hUq.cell (p:=⟨xb,0+2,none⟩) hxb aj).trans HS0.out.2.1,(hUq.cell (p:=sa) hsa aj).trans HS0.out.2.2⟩);have hs4:=HS1.out.1;have hs2:=HS1.out.2.1;have hsz:=HS1.out.2.2;clear hg hO hU hUq)
  | (go_at_call 45;refine(HB.out wq g cap HUq.out HG.out HO.out).mono ?_;rintro e w8 ⟨rfl,hG8⟩;have HG8:=ah hG8;have HS2:=ah (show(fun w':World=>w'.cell? ⟨xb,0+4,none⟩=some (.slice (some sa) ln sc)∧w'.cell? ⟨xb,0+2,none⟩=some (.int .i64 ix)∧w'.cell? sa=some (.int .i64 (sb:Nat))) w8 from hkeep wq w8 HUq.out hG8);clear hG8))
 exact HY.out _ _ _ _ _ _ _ _ _ _ _ _ _ wq w8 HUq.out HG8.out
theorem begin_7 {F:Fx} {S:Nat→Prop} {cl n p:Nat} {c:List Int} {s s':WSt} {x:PN} (hk:Tk F S cl) (hb:s.bg n p=false) (hx:F.l[n]?=some x) (hkd:x.kind=7) (h0:x.subs≠[]) (hcon:Con F S cl 45 (aR x) p (c.set (2*x.ix).toNat p) { s with bg:=bT s.bg n p } s'):Con F S cl 45 n p c s s':=by
 intro hn hp hc w OA oc CA cc hR hW hC
 have c3:=hW.wk.ak (i:=0+3) rfl
 have b3:=hR.bo n hn
 have e3:w.cell? ⟨F.bgb n,p,none⟩=some (.bool false):=by rw[←hb];exact(hW.bg n hn).ak (dM _ (by omega))
 have f3:=(hW.bg n hn).frozen p
 have hN:=hW.jw (p:=p) hk.dis hn
 have hR1:=hR.mut hk.dis hW.lo hN.upd
 have hC1:=hC.nx hN
 obtain⟨RA,rc,SA,sc,q0,q1,q2,q3,q4,q5,q6,q7,hrs,hsub,hin,hin2⟩:=aS (hR1.node n x hx)
 obtain⟨w1,hw1⟩:∃w1,w.setCell ⟨F.bgb n,p,none⟩ (.bool true)=w1:=⟨_,rfl⟩
 rw[hw1] at hN hR1 hC1 q0 q1 q2 q3 q4 q5 q6 q7 hrs hsub
 have HW1:=ah hw1
 have m0:=hN.wk.wk.ak (i:=0) rfl
 have t0:=hR1.tab.ak (i:=0) rfl
 obtain⟨M,hM⟩:∃M,F.xs.length+1=M:=⟨_,rfl⟩
 rw[hM] at b3
 have g1:(n:Int) < (F.l.length:Int):=by omega
 have g2:(p:Int) < (M:Int):=by omega
 have hAl:Upd Nob w1 (w1.alloc (.cells (aD x RA rc SA sc) 119)):=(Upd.refl Nob w1).alloc _
 have HX:=ah (Cells.new w1 119 (aD x RA rc SA sc))
 have HR:=ah (hR1.upd hAl (fun _ _=>aj))
 have HN:=ah (hN.trans (Nx.aM hN.wk hAl))
 have HC:=ah (hC1.nx (Nx.aM hN.wk hAl))
 have HRS:=ah (hrs.upd hAl (fun _ _=>aj))
 have gU:=ah (hsub.upd hAl (fun _ _=>aj))
 have hnm:¬Mut F OA w1.heap.size:=fun hm=>by
  have:=hR1.base
  rcases hm with hm | hm
  ·have:=hk.dis.lt _ hm;omega
  ·have:=(hN.wk.out.lo hm).2;omega
 have HNM:=ah hnm
 have HLO:=ah hN.wk.lo
 have HKD:=ah hkd
 clear hR hW hC hsub hrs hnm hkd hN hR1 hC1 hM hb hw1
 go_enter Try.func45,Try.ntmps45
 go_upto_region 2 with fail
 rw[HW1.out]
 clear c3 b3 e3 f3
 go_upto_region 3 with fail
 change Code.wp _ _ _ _ (w1.alloc (.cells (aD x RA rc SA sc) 119))
 generalize w1.alloc (.cells (aD x RA rc SA sc) 119)=wa at *
 clear m0 t0 q0 q1 q2 q3 q4 q5 q6 q7
 generalize w1.heap.size=xb at *
 have y0:=HX.out.ak (i:=0) (v:=.int .i64 7) (by rw[←HKD.out];rfl)
 have y4:=HX.out.ak (i:=0+4) (v:=.slice SA x.subs.length sc) rfl
 have y2:=HX.out.ak (i:=0+2) (v:=.int .i64 x.ix) rfl
 obtain⟨sa,rfl,hsb,hsS,z0⟩:=sub_first gU.out h0
 have hsl:=hk.sub n x hx (aR x) (by obtain⟨a,r,e⟩:=List.exists_cons_of_ne_nil h0;simp[aR,e])
 have hpos:0 < x.subs.length:=List.length_pos_iff.2 h0
 have hposI:(0:Int) < (x.subs.length:Int):=by omega
 have hixx:=hk.ix n x hx HKD.out
 have hclm:=hk.clm
 obtain⟨kk,hkk⟩:∃kk:Nat,2*x.ix=(kk:Int):=Int.eq_ofNat_of_zero_le (by omega)
 have hwr:IntKind.i64.wrap (2*x.ix)=(kk:Int):=by rw[IntKind.wrap_i64];omega
 have hkt:(2*x.ix).toNat=kk:=by omega
 rw[hkt] at hcon
 have HK7:=ah (show kk < c.length by omega)
 have HWR:=ah hwr
 have HY4:=ah y4
 have HY2:=ah y2
 have HZ0:=ah z0
 have HC7:=ah hc
 clear hkk hkt hixx hwr y4 y2 z0
 go_upto_region 24 with fail
 refine begin_reg24 _ wa _ F.wb xb x.subs.length sc cl cc kk (aR x) p sa x.ix CA c (fun wq w'=>∃OA1 oc1,Nx F wq s' OA w' OA1 oc1) _ _ _ _ _ _ _ _ _ _ _ _ _ _ _ _ _ _ _ _ _ _ _ _ _ _ _ _ _ _ _ _ _ _ _ _ _ _ _ _ _ _ _ _ _ _ _ _ _ _ _ _ _ _ _ _ _ _ _ _ _ _ _ _ _ _ _ _ _ _ _ _ _ _ _ _ _ _ _ _ _ _ _ _ _ _ _ _ _ _ _ _ _ _ _ _ _ _ _ _ _ _ _ _ _ _ _ _ _ _ _ _ _ _ _ _ _ _ _ _ _ _ _ _ _ _ _ _ _ _ _ _ _ _ _ _ _ _ _ _ _ _ _ _ _ _ _ _ _ _ _ hc hclm HY4.out HY2.out HZ0.out HX.out.lt hsb hposI HWR.out HK7.out HC.out (fun wq g cap hUq hg hO=>?_) (fun wq w' hUq hG=>?_) (fun _ _ _ _ _ _ _ _ _ _ _ _ _ wq w' hUq hG=>?_)
 ·have hb2:=HR.out.base
  have hgl:=(aK hO (g:=g) rfl)
  obtain⟨cur,hgc,-⟩:=hgl
  have hno:¬OA.map (·.block)=some g:=fun hm=>by
   have:=(HN.out.wk.out.lo hm).2
   omega
  have hcq:CapW wq F OA (some ⟨g,0,none⟩) (c.set kk (p:Int)):=by
   have:=Reads.eU hO
   refine Reads.weaken (by rw[List.length_set];exact this) (fun b hb=>?_)
   have e:b=g:=by simp[Value.ownBlock] at hb;exact hb.symm
   subst e
   exact⟨fun hm=>by have:=hk.dis.lt _ hm;omega,hno⟩
  have:=hcon hsl hp (by rw[List.length_set];exact hc) wq OA oc (some ⟨g,0,none⟩) cap (HR.out.upd hUq (fun _ _=>aj)) (HN.out.wk.upd hUq) hcq
  rw[hc]
  exact this
 ·obtain⟨OA1,oc1,hX1⟩:=hG
  have hnw:¬Mut F OA xb:=HNM.out
  have hns:¬Mut F OA sa.block:=fun hm=>by
   have:=hk.dis.s _ hsS
   rcases hm with hm | hm
   ·exact this.2 hm
   ·have:=HLO.out _ hm;omega
  have hx2:=HX.out.upd ((hUq.mono (G:=Mut F OA) (fun _ _ h=>absurd h aj)).trans hX1.upd (fun _ _ h=>h)) hnw
  exact⟨hx2.ak rfl,hx2.ak rfl,((hX1.upd.cell (p:=sa) (Nat.lt_of_lt_of_le hsb hUq.size) hns).trans (hUq.cell (p:=sa) hsb aj)).trans HZ0.out⟩
 ·obtain⟨OA1,oc1,hX1⟩:=hG
  go_wp2_with fail
  go_end0
  exact⟨rfl,OA1,oc1,(HN.out.trans (Nx.aM HN.out.wk hUq)).trans hX1⟩
end Go.Proofs.Ytnkefclbchpafaa

/-
  The walk of heronref06's behind. Printed by tools/mkBehind.py.
-/
namespace Go.Proofs.Ytnkefclbchpafaa
set_option maxRecDepth 100000
set_option maxHeartbeats 16000000
open Go.RowKit
set_option linter.unusedVariables false
theorem own_apart {w:World} {b1 b2 e1 e2 s1 s2 n1 n2:Nat} {v1 v2:Value} {x1 x2:List Value} (h1:w.ownsRow b1 e1 s1 v1 n1 x1) (h2:w.ownsRow b2 e2 s2 v2 n2 x2) (hne:e2≠e1) {b:Nat} (hb1:v1.ownBlock=some b) (hb2:v2.ownBlock=some b):False:=by
 obtain⟨cur,hc,-⟩:=aK h1 hb1
 exact own_ne h2 hc hne hb2
theorem pinfo_parse:(Try.prog.info? 58).map (fun i=>(i.zero,i.size,i.bytes))=some (some (.agg #[.int .i64 0,.slice none 0 0]),2,32):=by kernel_rfl
theorem behind_reg5 (Q:Exit→Act→World→Prop) (wr:World) (SC:Nat→Prop) (wb p n oc cc cl base:Nat) (OA CA:Option Addr) (c:List Int) (cs:Array Value) (fl:List Value) (x1 x4 x5 x6 x7 x8 x9 x10 x11 x12 x13 x14 x15 x16 x17 x18 x19 x20 x21 x22 x23 x24 x25 x26 x27 x28 x29 x30 x31 x32 x33 x34 x35 x36 x37 x38 x39 x40 x41 x42 x43 x44 x45 x46 x47 x48 x49 x50 x51 x52 x53 x54 x55 x56 x57 x58 x59 x60 x61 x62 x63 x64 x65 x66 x67 x68 x69 x70 x71 x72 x73 x74 x75 x76 x77 x78 x79 x80 x81 x82 x83 x84 x85 x86 x87 x88 x89 x90 x91 x92 x93 x94 x95 x96 x97 x98 x99 x100 x101 x102 x103 x104 x105 x106 x107 x108 x109 x110 x111 x112 x113 x114 x115 x116 x117 x118 x119 x120 x121 x122 x123 x124 x125 x126 x127 x128:Value)
  (hcl:c.length=cl) (hcs:cs[6]?=some (.slice OA n oc)) (hW:Cells wr wb 100 cs) (hO:wr.ownsRow base 58 2 (.slice OA n oc) n fl) (hC:Reads wr SC 1 CA c.length (bn c)) (hc1:1 < c.length) (hc4:c.length≤4000) (hn:n≤1000) (hbase:base≤wr.heap.size)
  (hnext:∀(v44 v45 v46 v47 v48 v49 v50 v51 v52 v53 v54 v55 v56 v57:Value) (wq wN:World) (gN cN g cap:Nat),Upd Nob wr wq→wr.heap.size≤g→Upd Nob wr (wq.alloc (.cells #[.int .i64 (p:Int),.slice (some ⟨g,0,none⟩) c.length cap] 58)) →
   (wq.alloc (.cells #[.int .i64 (p:Int),.slice (some ⟨g,0,none⟩) c.length cap] 58)).ownsRow base 58 2 (.slice OA n oc) n fl→(wq.alloc (.cells #[.int .i64 (p:Int),.slice (some ⟨g,0,none⟩) c.length cap] 58)).ownsRow wr.heap.size 3 1 (.slice (some ⟨g,0,none⟩) c.length cap) c.length (bn (c.set 1 (p:Int))) →
   (wq.alloc (.cells #[.int .i64 (p:Int),.slice (some ⟨g,0,none⟩) c.length cap] 58)).grownBy wN (Value.slice OA n oc).ownBlock→((Value.slice OA n oc).ownBlock=some gN∨gN=wq.heap.size+1)→gN < wN.heap.size →
   Cells wN wb 100 cs→wN.ownsRow wr.heap.size 3 1 (.slice (some ⟨g,0,none⟩) c.length cap) c.length (bn (c.set 1 (p:Int)))→wN.ownsRow base 58 2 (.slice (some ⟨gN,0,none⟩) (n+1) cN) (n+1) (fl++[.int .i64 (p:Int),.slice (some ⟨g,0,none⟩) c.length cap]) →
   Q .normal ⟨#[.pointer (some ⟨wb,0,none⟩),x1,.int .i64 (p:Int),.slice CA cl cc,x4,x5,x6,x7,x8,x9,x10,x11,x12,x13,x14,x15,x16,x17,x18,x19,x20,x21,x22,x23,x24,x25,x26,x27,x28,x29,x30,x31,x32,x33,x34,x35,x36,x37,x38,x39,x40,x41,x42,x43,v44,v45,v46,v47,v48,v49,v50,v51,v52,v53,v54,v55,v56,v57,x58,x59,x60,x61,x62,x63,x64,x65,x66,x67,x68,x69,x70,x71,x72,x73,x74,x75,x76,x77,x78,x79,x80,x81,x82,x83,x84,x85,x86,x87,x88,x89,x90,x91,x92,x93,x94,x95,x96,x97,x98,x99,x100,x101,x102,x103,x104,x105,x106,x107,x108,x109,x110,x111,x112,x113,x114,x115,x116,x117,x118,x119,x120,x121,x122,x123,x124,x125,x126,x127,x128],[]⟩ (wN.setCell ⟨wb,0+6,none⟩ (.slice (some ⟨gN,0,none⟩) (n+1) cN))) :
  (Code.region 5 #[{ dst:=some 44,op:=Op.move (Operand.tmp 0),type:=97,pos:= "ref.go:222",after:=#[],guard:=none },
  { dst:=some 45,op:=Op.move (Operand.tmp 0),type:=97,pos:= "ref.go:222",after:=#[],guard:=none },
  { dst:=some 46,op:=Op.nilCheck (Operand.tmp 45),type:=0,pos:= "ref.go:222",after:=#[{ on:=1,ground:=.data }],guard:=none },
  { dst:=some 47,op:=Op.fieldAddr 100 (Operand.tmp 46) 6,type:=0,pos:= "ref.go:222",after:=#[{ on:=2,ground:=.data }],guard:=none },
  { dst:=some 48,op:=Op.load 54 (Operand.tmp 47),type:=54,pos:= "ref.go:222",after:=#[{ on:=3,ground:=.data }],guard:=none },
  { dst:=some 49,op:=Op.move (Operand.tmp 2),type:=3,pos:= "ref.go:222",after:=#[],guard:=none },
  { dst:=some 50,op:=Op.move (Operand.tmp 3),type:=28,pos:= "ref.go:222",after:=#[],guard:=none },
  { dst:=some 51,op:=Op.move (Operand.tmp 2),type:=3,pos:= "ref.go:222",after:=#[],guard:=none },
  { dst:=some 52,op:=Op.call { callee:=Callee.value (Operand.func 66),args:=#[Operand.tmp 50,Operand.const (Value.int IntKind.i64 1),Operand.tmp 51],argTypes:=#[28, 3, 3] },type:=28,pos:= "ref.go:222",after:=#[{ on:=6,ground:=.data },{ on:=7,ground:=.data }],guard:=none },
  { dst:=some 53,op:=Op.build 58 #[(0,Operand.tmp 49),(1,Operand.tmp 52)],type:=58,pos:= "ref.go:222",after:=#[{ on:=5,ground:=.data },{ on:=8,ground:=.data }],guard:=none },
  { dst:=some 54,op:=Op.buildSlice 54 1 #[(0,Operand.tmp 53)],type:=54,pos:= "ref.go:222",after:=#[{ on:=9,ground:=.data }],guard:=none },
  { dst:=some 55,op:=Op.call { callee:=Callee.builtin Builtin.append,args:=#[Operand.tmp 48,Operand.tmp 54],argTypes:=#[54, 54] },type:=54,pos:= "ref.go:222",after:=#[{ on:=4,ground:=.data },{ on:=10,ground:=.data },{ on:=8,ground:=.chain }],guard:=none },
  { dst:=some 56,op:=Op.nilCheck (Operand.tmp 44),type:=0,pos:= "ref.go:222",after:=#[{ on:=0,ground:=.data },{ on:=0,ground:=.phase },{ on:=1,ground:=.phase },{ on:=2,ground:=.phase },{ on:=3,ground:=.phase },{ on:=4,ground:=.phase },{ on:=5,ground:=.phase },{ on:=6,ground:=.phase },{ on:=7,ground:=.phase },{ on:=8,ground:=.phase },{ on:=9,ground:=.phase },{ on:=10,ground:=.phase },{ on:=11,ground:=.phase }],guard:=none },
  { dst:=some 57,op:=Op.fieldAddr 100 (Operand.tmp 56) 6,type:=0,pos:= "ref.go:222",after:=#[{ on:=12,ground:=.data },{ on:=0,ground:=.phase },{ on:=1,ground:=.phase },{ on:=2,ground:=.phase },{ on:=3,ground:=.phase },{ on:=4,ground:=.phase },{ on:=5,ground:=.phase },{ on:=6,ground:=.phase },{ on:=7,ground:=.phase },{ on:=8,ground:=.phase },{ on:=9,ground:=.phase },{ on:=10,ground:=.phase },{ on:=11,ground:=.phase }],guard:=none },
  { dst:=none,op:=Op.store 54 (Operand.tmp 57) (Operand.tmp 55),type:=0,pos:= "ref.go:222",after:=#[{ on:=13,ground:=.data },{ on:=11,ground:=.data },{ on:=11,ground:=.chain },{ on:=0,ground:=.phase },{ on:=1,ground:=.phase },{ on:=2,ground:=.phase },{ on:=3,ground:=.phase },{ on:=4,ground:=.phase },{ on:=5,ground:=.phase },{ on:=6,ground:=.phase },{ on:=7,ground:=.phase },{ on:=8,ground:=.phase },{ on:=9,ground:=.phase },{ on:=10,ground:=.phase },{ on:=11,ground:=.phase }],guard:=none }] true).wp Try.prog Q ⟨#[.pointer (some ⟨wb,0,none⟩),x1,.int .i64 (p:Int),.slice CA cl cc,x4,x5,x6,x7,x8,x9,x10,x11,x12,x13,x14,x15,x16,x17,x18,x19,x20,x21,x22,x23,x24,x25,x26,x27,x28,x29,x30,x31,x32,x33,x34,x35,x36,x37,x38,x39,x40,x41,x42,x43,x44,x45,x46,x47,x48,x49,x50,x51,x52,x53,x54,x55,x56,x57,x58,x59,x60,x61,x62,x63,x64,x65,x66,x67,x68,x69,x70,x71,x72,x73,x74,x75,x76,x77,x78,x79,x80,x81,x82,x83,x84,x85,x86,x87,x88,x89,x90,x91,x92,x93,x94,x95,x96,x97,x98,x99,x100,x101,x102,x103,x104,x105,x106,x107,x108,x109,x110,x111,x112,x113,x114,x115,x116,x117,x118,x119,x120,x121,x122,x123,x124,x125,x126,x127,x128],[]⟩ wr:=by
 subst hcl
 obtain⟨i0,hi0,hz0,hz1,hz2⟩:=info_parts pinfo_parse
 have HW:=ah hW
 have HY:=ah hnext
 have HO:=ah hO
 have HC:=ah (show Reads wr.drew SC 1 CA c.length (bn c) from hC)
 clear hW hnext hO hC
 refine Code.wp_mono (QuietQ.imp (G:=fun _ _ _=>False) (fun _ _ _ h=>h.elim)) ?_
 refine aP.begin 14 (fun w'=>w'.cell? ⟨wb,0+6,none⟩=some (.slice OA n oc)) (by kernel_rfl) (HW.out.ak hcs) (fun hSS=>?_)
 refine aP.take (i:=0) (oi:={ dst:=some 44,op:=Op.move (Operand.tmp 0),type:=97,pos:= "ref.go:222",after:=#[],guard:=none }) (v:=?v0nh1) ?a0nh1 ?b0nh1 ?c0nh1 ?d0nh1 ?e0nh1 (fun _ _ _ h=>h) (Or.inl ⟨?f0nh1,?y0nh1⟩) (by assumption) ?r0nh1
 case a0nh1=>rfl
 case b0nh1=>kernel_rfl
 case c0nh1=>kernel_rfl
 case d0nh1=>kernel_rfl
 case e0nh1=>kernel_rfl
 case f0nh1=>rfl
 case y0nh1=>(intro w' hSw;(try dsimp only at hSw);go_simp;try with_reducible rfl)
 try simp only[Act.put,List.setIfInBounds_toArray,List.set_cons_zero,List.set_cons_succ]
 refine aP.take (i:=1) (oi:={ dst:=some 45,op:=Op.move (Operand.tmp 0),type:=97,pos:= "ref.go:222",after:=#[],guard:=none }) (v:=?v1nh2) ?a1nh2 ?b1nh2 ?c1nh2 ?d1nh2 ?e1nh2 (fun _ _ _ h=>h) (Or.inl ⟨?f1nh2,?y1nh2⟩) (by assumption) ?r1nh2
 case a1nh2=>rfl
 case b1nh2=>kernel_rfl
 case c1nh2=>kernel_rfl
 case d1nh2=>kernel_rfl
 case e1nh2=>kernel_rfl
 case f1nh2=>rfl
 case y1nh2=>(intro w' hSw;(try dsimp only at hSw);go_simp;try with_reducible rfl)
 try simp only[Act.put,List.setIfInBounds_toArray,List.set_cons_zero,List.set_cons_succ]
 refine aP.take (i:=2) (oi:={ dst:=some 46,op:=Op.nilCheck (Operand.tmp 45),type:=0,pos:= "ref.go:222",after:=#[{ on:=1,ground:=.data }],guard:=none }) (v:=?v2nh3) ?a2nh3 ?b2nh3 ?c2nh3 ?d2nh3 ?e2nh3 (fun _ _ _ h=>h) (Or.inl ⟨?f2nh3,?y2nh3⟩) (by assumption) ?r2nh3
 case a2nh3=>rfl
 case b2nh3=>kernel_rfl
 case c2nh3=>kernel_rfl
 case d2nh3=>kernel_rfl
 case e2nh3=>kernel_rfl
 case f2nh3=>rfl
 case y2nh3=>(intro w' hSw;(try dsimp only at hSw);go_simp;try with_reducible rfl)
 try simp only[Act.put,List.setIfInBounds_toArray,List.set_cons_zero,List.set_cons_succ]
 refine aP.take (i:=3) (oi:={ dst:=some 47,op:=Op.fieldAddr 100 (Operand.tmp 46) 6,type:=0,pos:= "ref.go:222",after:=#[{ on:=2,ground:=.data }],guard:=none }) (v:=?v3nh4) ?a3nh4 ?b3nh4 ?c3nh4 ?d3nh4 ?e3nh4 (fun _ _ _ h=>h) (Or.inl ⟨?f3nh4,?y3nh4⟩) (by assumption) ?r3nh4
 case a3nh4=>rfl
 case b3nh4=>kernel_rfl
 case c3nh4=>kernel_rfl
 case d3nh4=>kernel_rfl
 case e3nh4=>kernel_rfl
 case f3nh4=>rfl
 case y3nh4=>(intro w' hSw;(try dsimp only at hSw);go_simp;try with_reducible rfl)
 try simp only[Act.put,List.setIfInBounds_toArray,List.set_cons_zero,List.set_cons_succ]
 refine aP.take (i:=4) (oi:={ dst:=some 48,op:=Op.load 54 (Operand.tmp 47),type:=54,pos:= "ref.go:222",after:=#[{ on:=3,ground:=.data }],guard:=none }) (v:=?v4nh5) ?a4nh5 ?b4nh5 ?c4nh5 ?d4nh5 ?e4nh5 (fun _ _ _ h=>h) (Or.inl ⟨?f4nh5,?y4nh5⟩) (by assumption) ?r4nh5
 case a4nh5=>rfl
 case b4nh5=>kernel_rfl
 case c4nh5=>kernel_rfl
 case d4nh5=>kernel_rfl
 case e4nh5=>kernel_rfl
 case f4nh5=>rfl
 case y4nh5=>(intro w' hSw;(try dsimp only at hSw);go_simp;try with_reducible rfl)
 try simp only[Act.put,List.setIfInBounds_toArray,List.set_cons_zero,List.set_cons_succ]
 refine aP.take (i:=5) (oi:={ dst:=some 49,op:=Op.move (Operand.tmp 2),type:=3,pos:= "ref.go:222",after:=#[],guard:=none }) (v:=?v5nh6) ?a5nh6 ?b5nh6 ?c5nh6 ?d5nh6 ?e5nh6 (fun _ _ _ h=>h) (Or.inl ⟨?f5nh6,?y5nh6⟩) (by assumption) ?r5nh6
 case a5nh6=>rfl
 case b5nh6=>kernel_rfl
 case c5nh6=>kernel_rfl
 case d5nh6=>kernel_rfl
 case e5nh6=>kernel_rfl
 case f5nh6=>rfl
 case y5nh6=>(intro w' hSw;(try dsimp only at hSw);go_simp;try with_reducible rfl)
 try simp only[Act.put,List.setIfInBounds_toArray,List.set_cons_zero,List.set_cons_succ]
 refine aP.take (i:=6) (oi:={ dst:=some 50,op:=Op.move (Operand.tmp 3),type:=28,pos:= "ref.go:222",after:=#[],guard:=none }) (v:=?v6nh7) ?a6nh7 ?b6nh7 ?c6nh7 ?d6nh7 ?e6nh7 (fun _ _ _ h=>h) (Or.inl ⟨?f6nh7,?y6nh7⟩) (by assumption) ?r6nh7
 case a6nh7=>rfl
 case b6nh7=>kernel_rfl
 case c6nh7=>kernel_rfl
 case d6nh7=>kernel_rfl
 case e6nh7=>kernel_rfl
 case f6nh7=>rfl
 case y6nh7=>(intro w' hSw;(try dsimp only at hSw);go_simp;try with_reducible rfl)
 try simp only[Act.put,List.setIfInBounds_toArray,List.set_cons_zero,List.set_cons_succ]
 refine aP.take (i:=7) (oi:={ dst:=some 51,op:=Op.move (Operand.tmp 2),type:=3,pos:= "ref.go:222",after:=#[],guard:=none }) (v:=?v7nh8) ?a7nh8 ?b7nh8 ?c7nh8 ?d7nh8 ?e7nh8 (fun _ _ _ h=>h) (Or.inl ⟨?f7nh8,?y7nh8⟩) (by assumption) ?r7nh8
 case a7nh8=>rfl
 case b7nh8=>kernel_rfl
 case c7nh8=>kernel_rfl
 case d7nh8=>kernel_rfl
 case e7nh8=>kernel_rfl
 case f7nh8=>rfl
 case y7nh8=>(intro w' hSw;(try dsimp only at hSw);go_simp;try with_reducible rfl)
 try simp only[Act.put,List.setIfInBounds_toArray,List.set_cons_zero,List.set_cons_succ]
 refine aP.one (i:=8) (o:={ dst:=some 52,op:=Op.call { callee:=Callee.value (Operand.func 66),args:=#[Operand.tmp 50,Operand.const (Value.int IntKind.i64 1),Operand.tmp 51],argTypes:=#[28, 3, 3] },type:=28,pos:= "ref.go:222",after:=#[{ on:=6,ground:=.data },{ on:=7,ground:=.data }],guard:=none }) ?ph9 ?qh9 ?_
 case ph9=>kernel_rfl
 case qh9=>rfl
 intro K' hK
 go_simp
 refine(noted_any wr.drew SC CA cc c 1 (p:Int) HC.out hc1 (by omega)).mono ?_
 rintro e wq ⟨g,cap,rfl,hg,hO,hU⟩
 have hUq:=((Upd.refl Nob wr).drew).trans hU (fun _ _ h=>h)
 have X8:=HW.out.upd hUq aj
 refine hK.out _ _ (.inr (X8.ak hcs)) ?_;clear hK K'
 try simp only[Act.put,List.setIfInBounds_toArray,List.set_cons_zero,List.set_cons_succ]
 have hs9:wq.cell? ⟨wb,0+6,none⟩=some (.slice OA n oc):=X8.ak hcs
 refine aP.take (i:=9) (oi:={ dst:=some 53,op:=Op.build 58 #[(0,Operand.tmp 49),(1,Operand.tmp 52)],type:=58,pos:= "ref.go:222",after:=#[{ on:=5,ground:=.data },{ on:=8,ground:=.data }],guard:=none }) (v:=?v9nh10) ?a9nh10 ?b9nh10 ?c9nh10 ?d9nh10 ?e9nh10 (fun _ _ _ h=>h) (Or.inl ⟨?f9nh10,?y9nh10⟩) (by assumption) ?r9nh10
 case a9nh10=>rfl
 case b9nh10=>kernel_rfl
 case c9nh10=>kernel_rfl
 case d9nh10=>kernel_rfl
 case e9nh10=>kernel_rfl
 case f9nh10=>rfl
 case y9nh10=>(intro w' hSw;(try dsimp only at hSw);go_simp;try with_reducible rfl)
 try simp only[Act.put,List.setIfInBounds_toArray,List.set_cons_zero,List.set_cons_succ]
 refine aP.one (i:=10) (o:={ dst:=some 54,op:=Op.buildSlice 54 1 #[(0,Operand.tmp 53)],type:=54,pos:= "ref.go:222",after:=#[{ on:=9,ground:=.data }],guard:=none }) ?ph11 ?qh11 ?_
 case ph11=>kernel_rfl
 case qh11=>rfl
 intro K' hK
 go_simp
 have U9:=hUq.alloc (.cells #[.int .i64 (p:Int),.slice (some ⟨g,0,none⟩) c.length cap] 58)
 have X9:=HW.out.upd U9 aj
 have hs8:=hUq.size
 refine hK.out _ _ (.inr (X9.ak hcs)) ?_;clear hK K'
 try simp only[Act.put,List.setIfInBounds_toArray,List.set_cons_zero,List.set_cons_succ]
 refine aP.one (i:=11) (o:={ dst:=some 55,op:=Op.call { callee:=Callee.builtin Builtin.append,args:=#[Operand.tmp 48,Operand.tmp 54],argTypes:=#[54, 54] },type:=54,pos:= "ref.go:222",after:=#[{ on:=4,ground:=.data },{ on:=10,ground:=.data },{ on:=8,ground:=.chain }],guard:=none }) ?ph12 ?qh12 ?_
 case ph12=>kernel_rfl
 case qh12=>rfl
 intro K' hK
 have P9:=aJ HO.out U9 (fun _ _=>aj)
 have O9:=aJ hO ((Upd.refl Nob wq).alloc (.cells #[.int .i64 (p:Int),.slice (some ⟨g,0,none⟩) c.length cap] 58)) (fun _ _=>aj)
 refine step_append_lies _ rfl (.tmp 48) (.tmp 54) 54 rfl base 58 i0 _ 2 32 Try.underlying54 hi0 hz0 hz1 hz2 rfl (by decide) (.slice OA n oc) n fl (by rfl) P9 ⟨wq.heap.size,0,none⟩ 1 1 [.int .i64 (p:Int),.slice (some ⟨g,0,none⟩) c.length cap] (by rfl) (by rfl) (World.news_of_block (cs:=#[.int .i64 (p:Int),.slice (some ⟨g,0,none⟩) c.length cap]) (t:=58) (fr:=(0,0)) (heap_alloc_new wq _)) (by intro u hu;simp at hu;rcases hu with rfl | rfl <;> rfl) (by decide) (by unfold maxLen;omega) (by omega) (by simp;omega) (wq.heap.size+1) (by simp) ?_
 intro gN cN wN oN gr hat hltN
 have UB:=(Upd.refl (fun b=>(Value.slice OA n oc).ownBlock=some b) (wq.alloc (.cells #[.int .i64 (p:Int),.slice (some ⟨g,0,none⟩) c.length cap] 58))).grown gr (fun b hb _=>hb)
 have XN:=X9.upd UB (own_ne P9 X9 (by decide))
 have ON:=aJ O9 UB (fun b hb hb2=>own_apart O9 P9 (by decide) hb hb2)
 refine hK.out _ _ (.inr (XN.ak hcs)) ?_;clear hK K'
 try simp only[Act.put,List.setIfInBounds_toArray,List.set_cons_zero,List.set_cons_succ]
 have x4:wN.cell? ⟨wb,0+6,none⟩=some (.slice OA n oc):=XN.ak hcs
 have z4:wN.frozen? ⟨wb,0+6,none⟩=false:=XN.frozen _
 refine aP.one (i:=12) (o:={ dst:=some 56,op:=Op.nilCheck (Operand.tmp 44),type:=0,pos:= "ref.go:222",after:=#[{ on:=0,ground:=.data },{ on:=0,ground:=.phase },{ on:=1,ground:=.phase },{ on:=2,ground:=.phase },{ on:=3,ground:=.phase },{ on:=4,ground:=.phase },{ on:=5,ground:=.phase },{ on:=6,ground:=.phase },{ on:=7,ground:=.phase },{ on:=8,ground:=.phase },{ on:=9,ground:=.phase },{ on:=10,ground:=.phase },{ on:=11,ground:=.phase }],guard:=none }) ?ph13 ?qh13 ?_
 case ph13=>kernel_rfl
 case qh13=>rfl
 intro K' hK
 go_simp
 refine hK.out _ _ (.inr x4) ?_;clear hK K'
 try simp only[Act.put,List.setIfInBounds_toArray,List.set_cons_zero,List.set_cons_succ]
 refine aP.take (i:=13) (oi:={ dst:=some 57,op:=Op.fieldAddr 100 (Operand.tmp 56) 6,type:=0,pos:= "ref.go:222",after:=#[{ on:=12,ground:=.data },{ on:=0,ground:=.phase },{ on:=1,ground:=.phase },{ on:=2,ground:=.phase },{ on:=3,ground:=.phase },{ on:=4,ground:=.phase },{ on:=5,ground:=.phase },{ on:=6,ground:=.phase },{ on:=7,ground:=.phase },{ on:=8,ground:=.phase },{ on:=9,ground:=.phase },{ on:=10,ground:=.phase },{ on:=11,ground:=.phase }],guard:=none }) (v:=?v13nh14) ?a13nh14 ?b13nh14 ?c13nh14 ?d13nh14 ?e13nh14 (fun _ _ _ h=>h) (Or.inl ⟨?f13nh14,?y13nh14⟩) (by assumption) ?r13nh14
 case a13nh14=>rfl
 case b13nh14=>kernel_rfl
 case c13nh14=>kernel_rfl
 case d13nh14=>kernel_rfl
 case e13nh14=>kernel_rfl
 case f13nh14=>rfl
 case y13nh14=>(intro w' hSw;(try dsimp only at hSw);go_simp;try with_reducible rfl)
 try simp only[Act.put,List.setIfInBounds_toArray,List.set_cons_zero,List.set_cons_succ]
 refine aP.one (i:=14) (o:={ dst:=none,op:=Op.store 54 (Operand.tmp 57) (Operand.tmp 55),type:=0,pos:= "ref.go:222",after:=#[{ on:=13,ground:=.data },{ on:=11,ground:=.data },{ on:=11,ground:=.chain },{ on:=0,ground:=.phase },{ on:=1,ground:=.phase },{ on:=2,ground:=.phase },{ on:=3,ground:=.phase },{ on:=4,ground:=.phase },{ on:=5,ground:=.phase },{ on:=6,ground:=.phase },{ on:=7,ground:=.phase },{ on:=8,ground:=.phase },{ on:=9,ground:=.phase },{ on:=10,ground:=.phase },{ on:=11,ground:=.phase }],guard:=none }) ?ph15 ?qh15 ?_
 case ph15=>kernel_rfl
 case qh15=>rfl
 intro K' hK
 go_simp
 refine hK.out _ _ (.inl rfl) ?_;clear hK K'
 refine aP.done ?_ ?_ _
 ·kernel_rfl
 exact HY.out _ _ _ _ _ _ _ _ _ _ _ _ _ _ wq wN gN cN g cap hUq hg U9 P9 O9 gr hat hltN XN ON oN
end Go.Proofs.Ytnkefclbchpafaa
