/-
  LyP, Form, Held, put together.
-/
import Derived.Test.YtnkefclbchpafaaZ13Ly
import Derived.Test.YtnkefclbchpafaaZ03RunP
import Derived.OrdersHeld
import Derived.StillTail
import Derived.RegionTactic
import Derived.Deep.RegionHeld

/-
  Where an unfolded tree is laid, its row of nodes can be placed. Plain.
-/
namespace Go.Proofs.Ytnkefclbchpafaa
set_option linter.unusedVariables false
section
variable {l : List PN} {is : List av}
mutual
theorem ly_le:∀(u:UT) (b e:Nat),Ly is u b e→b≤e
 | .eps,b,e,h=>by cases h;exact Nat.le_refl _
 | .cls _,b,e,h=>by cases h;omega
 | .asr _,b,e,h=>by cases h;omega
 | .cat us,b,e,h=>by
  cases h with
  | cat _ _ _ h=>exact lyC_le us b e h
 | .alt us,b,e,h=>by
  cases h with
  | alt _ _ _ h0 h=>exact lyA_le us b e h
 | .grp _ u,b,e,h=>by cases h;omega
 | .star u _,b,e,h=>by cases h;omega
 | .plus u _,b,e,h=>by cases h;omega
 | .quest u _,b,e,h=>by cases h;omega
theorem lyC_le:∀(us:List UT) (b e:Nat),LyC is us b e→b≤e
 | [],b,e,h=>by cases h;exact Nat.le_refl _
 | u::us,b,e,h=>by cases h;omega
theorem lyA_le:∀(us:List UT) (b e:Nat),LyA is us b e→b≤e
 | [],b,e,h=>by cases h
 | u::us,b,e,h=>by
  cases h with
  | last _ _ _ h=>exact ly_le u b e h
  | cons=>omega
end
theorem ld_of {u:UT} {ws:List UT} (h:LdU u ws):∀ {s:Nat},Rep l u s→∃n,Ld l u s n ws:=by
 induction h with
 | here us=>exact fun {s} _=>⟨s,.here us s⟩
 | cat us k u ws h1 h2 _ ih =>
  intro s hr
  cases hr with
  | cat _ x _ g1 g2 g0 g3 =>
  have hk:k < x.subs.length:=by rw[←g3.len];exact(List.getElem?_eq_some_iff.1 h1).1
  have hs:x.subs[k]?=some x.subs[k]:=List.getElem?_eq_getElem hk
  obtain⟨w,x',e1,e2,-⟩:=jO g3 hs
  rw[h1] at e1
  injection e1 with e1
  subst e1
  obtain⟨n,hn⟩:=ih e2
  exact⟨n,.cat us s x k u _ n ws g1 h1 hs h2 hn⟩
def jA (l:List PN) (ss:List Nat) (i:Nat):Prop:=∃s∈ss,Des l s i
variable (hl : LowS l)
include hl
theorem sib {u:UT} {us:List UT} {m k s:Nat} {ss:List Nat} {y:PN} (hr:dW l (u::us) m k (s::ss)) (hy:l[m]?=some y) (hss:∀t∈s::ss,t∈y.subs):∀i,Des l s i→¬jA l ss i:=fun i hi ⟨t,ht,hti⟩=>by
 obtain⟨u1,x1,a1,a2,a3,a4,a5⟩:=hr.at_ 0 s rfl
 obtain⟨j,hj⟩:=List.mem_iff_getElem?.1 ht
 obtain⟨u2,x2,b1,b2,b3,b4,b5⟩:=hr.at_ (j+1) t (by simpa using hj)
 refine des_apart hl a2 b2 a3 b3 a4 b4 hy (hss s (by simp)) (hss t (by simp[ht])) (fun e=>?_) hi hti
 subst e
 rw[a3] at b3
 injection b3 with b3
 subst b3
 omega
theorem iQ {n s:Nat} {x:PN} (hx:l[n]?=some x) (hs:s∈x.subs) {i:Nat} (hi:Des l s i):i < n:=by
 have:=hl n x hx s hs
 have:=hi.le hl
 omega
mutual
theorem ex_pl:∀(u:UT) (n b e:Nat) (S0:Sm),Ly is u b e→Rep l u n→∃S,kT S0 S (Des l n) b e∧OwS S (Des l n) b e∧∀S',AgS S S' (Des l n) b e→Pl S' l is u n b e
 | .eps,n,b,e,S0,h,hr=>by
  cases h
  exact⟨S0,.rfl_ _ _ _ _,.nil _ _ _,fun S' _=>.eps n b⟩
 | .cls rs,n,b,e,S0,h,hr=>by
  cases h with
  | cls _ _ y h1 h2 =>
  refine⟨setB S0 n b (.nB n),setB_out _ _ (.here n) (Nat.le_refl _) (by omega),.cellB (bQ _ _ _) (bQ _ _ _) (.here n),fun S' g=>?_⟩
  have g1:=g.nd n (.here n)
  exact .cls n b rs y ((g.pc b (Nat.le_refl _) (by omega)).trans (bQ _ _ _)) (g1.1.trans (bQ _ _ _)) (g1.2.2.trans (bQ _ _ _)) h1 h2
 | .asr a,n,b,e,S0,h,hr=>by
  cases h with
  | asr _ _ y h1 h2 h3 h4 =>
  refine⟨setB S0 n b (.nB n),setB_out _ _ (.here n) (Nat.le_refl _) (by omega),.cellB (bQ _ _ _) (bQ _ _ _) (.here n),fun S' g=>?_⟩
  have g1:=g.nd n (.here n)
  exact .asr n b a y ((g.pc b (Nat.le_refl _) (by omega)).trans (bQ _ _ _)) (g1.1.trans (bQ _ _ _)) (g1.2.2.trans (bQ _ _ _)) h1 h2 h3 h4
 | .cat us,n,b,e,S0,h,hr=>by
  cases h with
  | cat _ _ _ h =>
  cases hr with
  | cat _ x _ g1 g2 g0 g3 =>
  obtain⟨S,o,wo,st⟩:=ex_plC us n x 0 x.subs b e S0 h g1 g3 (fun t h=>h)
  have hd:∀i,jA l x.subs i→Des l n i:=fun i ⟨s,hs,hi⟩=>.sub n x s i g1 (by omega) hs hi
  exact⟨S,o.more hd (Nat.le_refl _) (Nat.le_refl _),wo.more hd,fun S' g=>.cat n b e us x g1 (st S' (g.less hd (Nat.le_refl _) (Nat.le_refl _)))⟩
 | .alt us,n,b,e,S0,h,hr=>by
  cases h with
  | alt _ _ _ h2 h =>
  obtain⟨x,g1,g2,g3⟩:=hr.kind_alt
  have hd:∀i,jA l x.subs i→Des l n i:=fun i ⟨s,hs,hi⟩=>.sub n x s i g1 (by omega) hs hi
  have hn:¬jA l x.subs n:=fun⟨s,hs,hi⟩=>by have:=iQ hl g1 hs hi;omega
  obtain⟨S,o,wo,ow,st⟩:=ex_plA us n x 0 x.subs b e (setB S0 n b (.ch n)) h g1 g3 (fun t h=>h)
  have hbe:b < e:=by
   match us,h,h2 with
   | u::w::us,.cons _ _ _ t _ k1 k2 _ _,_=>omega
  refine⟨S,(setB_out S0 (.ch n) (.here n) (Nat.le_refl _) hbe).trans (o.more hd (Nat.le_refl _) (Nat.le_refl _)),wo.more hd,fun S' g=>?_⟩
  have q1:=g.nd n (.here n)
  have q2:=o.nd n hn
  exact .alt n b e us x g1 ((g.pc b (Nat.le_refl _) hbe).trans (ow h2)) ((q1.1.trans q2.1).trans (bQ _ _ _)) ((q1.2.2.trans q2.2.2).trans (bQ _ _ _)) h2 (st S' (g.less hd (Nat.le_refl _) (Nat.le_refl _)))
 | .grp ix u,n,b,e,S0,h,hr=>by
  cases h with
  | grp _ m _ _ y z h1 h2 h3 h4 h5 h6 h7 h8 h9 h10 =>
  cases hr with
  | grp _ x _ g1 g2 g3 =>
  obtain⟨q1,q2,w,q3,q4⟩:=one_sub g3
  have hd:∀i,Des l (aR x) i→Des l n i:=fun i hi=>.sub n x (aR x) i g1 (by omega) (by rw[q1];simp) hi
  obtain⟨S,o,wo,st⟩:=ex_pl u (aR x) (b+1) m (setO (setO S0 b none) m none) h6 q2
  have wb:S.own b=none:=by
   rw[o.pc b (by omega)]
   show ups _ m none b=none
   rw[kN _ _ (by omega)]
   exact bQ _ _ _
  have wm:S.own m=none:=by
   rw[o.pc m (by omega)]
   exact bQ _ _ _
  refine⟨S,((setO_out S0 none (Nat.le_refl _) (by omega)).trans (setO_out _ none (by omega) (by omega))).trans (o.more hd (by omega) (by omega)),(OwS.cellN wb).app ((wo.more hd).app (.cellN wm)),fun S' g=>?_⟩
  exact .grp n b m _ u x y z g1 ((g.pc b (by omega) (by omega)).trans wb) h1 h2 h3 h4 (st S' (g.less hd (by omega) (by omega))) ((g.pc m (by omega) (by omega)).trans wm) h7 h8 h9 h10
 | .star u lz,n,b,e,S0,h,hr=>by
  cases h with
  | star _ m _ _ y z h1 h2 h3 h4 h5 h6 h7 h8 h9 =>
  cases hr with
  | star _ x _ g1 g2 g3 =>
  obtain⟨q1,q2,w,q3,q4⟩:=one_sub g3
  have hs:aR x∈x.subs:=by rw[q1];simp
  have hd:∀i,Des l (aR x) i→Des l n i:=fun i hi=>.sub n x (aR x) i g1 (by omega) hs hi
  have hn:¬Des l (aR x) n:=fun hi=>by have:=iQ hl g1 hs hi;omega
  obtain⟨S,o,wo,st⟩:=ex_pl u (aR x) (b+1) m (setD (setO S0 m none) n b) h6 q2
  have wb:S.own b=some (.nD n):=by
   rw[o.pc b (by omega)]
   exact bQ _ _ _
  have wm:S.own m=none:=by
   rw[o.pc m (by omega)]
   show ups (ups _ m none) b _ m=none
   rw[kN _ _ (by omega)]
   exact bQ _ _ _
  have wk:S.kd n=b:=(o.nd n hn).2.1.trans (bQ _ _ _)
  refine⟨S,((setO_out S0 none (by omega) (by omega)).trans (setD_out _ (.here n) (Nat.le_refl _) (by omega))).trans (o.more hd (by omega) (by omega)),(OwS.cellD wb wk (.here n)).app ((wo.more hd).app (.cellN wm)),fun S' g=>?_⟩
  exact .star n b m u _ x y z g1 ((g.pc b (by omega) (by omega)).trans wb) ((g.nd n (.here n)).2.1.trans wk) h1 h2 h3 h4 (st S' (g.less hd (by omega) (by omega))) ((g.pc m (by omega) (by omega)).trans wm) h7 h8 h9
 | .plus u lz,n,b,e,S0,h,hr=>by
  cases h with
  | plus _ m _ _ y h1 h2 h3 h4 h5 h6 =>
  cases hr with
  | plus _ x _ g1 g2 g3 =>
  obtain⟨q1,q2,w,q3,q4⟩:=one_sub g3
  have hs:aR x∈x.subs:=by rw[q1];simp
  have hd:∀i,Des l (aR x) i→Des l n i:=fun i hi=>.sub n x (aR x) i g1 (by omega) hs hi
  have hn:¬Des l (aR x) n:=fun hi=>by have:=iQ hl g1 hs hi;omega
  obtain⟨S,o,wo,st⟩:=ex_pl u (aR x) b m (setD S0 n m) h2 q2
  have wm:S.own m=some (.nD n):=by
   rw[o.pc m (by omega)]
   exact bQ _ _ _
  have wk:S.kd n=m:=(o.nd n hn).2.1.trans (bQ _ _ _)
  refine⟨S,(setD_out S0 (.here n) (by omega) (by omega)).trans (o.more hd (by omega) (by omega)),(wo.more hd).app (.cellD wm wk (.here n)),fun S' g=>?_⟩
  exact .plus n b m u _ x y g1 (st S' (g.less hd (by omega) (by omega))) ((g.pc m (by omega) (by omega)).trans wm) ((g.nd n (.here n)).2.1.trans wk) h3 h4 h5 h6
 | .quest u lz,n,b,e,S0,h,hr=>by
  cases h with
  | quest _ _ _ _ y h1 h2 h3 h4 h5 h6 =>
  cases hr with
  | quest _ x _ g1 g2 g3 =>
  obtain⟨q1,q2,w,q3,q4⟩:=one_sub g3
  have hs:aR x∈x.subs:=by rw[q1];simp
  have hd:∀i,Des l (aR x) i→Des l n i:=fun i hi=>.sub n x (aR x) i g1 (by omega) hs hi
  have hn:¬Des l (aR x) n:=fun hi=>by have:=iQ hl g1 hs hi;omega
  obtain⟨S,o,wo,st⟩:=ex_pl u (aR x) (b+1) e (setB S0 n b (.nB n)) h6 q2
  have wb:S.own b=some (.nB n):=by
   rw[o.pc b (by omega)]
   exact bQ _ _ _
  have wk:S.kb n=b:=(o.nd n hn).1.trans (bQ _ _ _)
  refine⟨S,(setB_out S0 _ (.here n) (by omega) (by omega)).trans (o.more hd (by omega) (by omega)),(OwS.cellB wb wk (.here n)).app (wo.more hd),fun S' g=>?_⟩
  have g4:=g.nd n (.here n)
  have o4:=o.nd n hn
  exact .quest n b e u _ x y g1 ((g.pc b (by omega) (by omega)).trans wb) (g4.1.trans wk) ((g4.2.2.trans o4.2.2).trans (bQ _ _ _)) h1 h2 h3 h4 (st S' (g.less hd (by omega) (by omega)))
termination_by u=>(SizeOf.sizeOf u,0)
decreasing_by all_goals (simp_wf;first | (apply Prod.Lex.left;simp;omega) | (apply Prod.Lex.left;simp;done) | (apply Prod.Lex.left;omega))
theorem ex_plC:∀(us:List UT) (m:Nat) (y:PN) (k:Nat) (ss:List Nat) (b e:Nat) (S0:Sm),LyC is us b e→l[m]?=some y→dW l us m k ss→(∀t∈ss,t∈y.subs)→∃S,kT S0 S (jA l ss) b e∧OwS S (jA l ss) b e∧∀S',AgS S S' (jA l ss) b e→PlC S' l is us ss b e
 | [],m,y,k,ss,b,e,S0,h,hm,hr,hss=>by
  cases h
  cases hr
  exact⟨S0,.rfl_ _ _ _ _,.nil _ _ _,fun S' _=>.nil b⟩
 | u::us,m,y,k,ss,b,e,S0,h,hm,hr,hss=>by
  cases h with
  | cons _ _ _ q _ k1 k2 k3 k4 =>
  have hr0:=hr
  cases hr with
  | cons _ _ _ _ s ss' x h1 h2 h3 h5 h6 =>
  obtain⟨S1,o1,wo1,st1⟩:=ex_pl u s b q S0 k3 h1
  obtain⟨S2,o2,wo2,st2⟩:=ex_plC us m y (k+1) ss' q e S1 k4 hm h6 (fun t ht=>hss t (by simp[ht]))
  have ha:∀i,Des l s i→jA l (s::ss') i:=fun i hi=>⟨s,by simp,hi⟩
  have hb:∀i,jA l ss' i→jA l (s::ss') i:=fun i ⟨t,ht,hi⟩=>⟨t,by simp[ht],hi⟩
  refine⟨S2,(o1.more ha (by omega) (by omega)).trans (o2.more hb (by omega) (by omega)),((OwS.later o2 wo1 (sib hl hr0 hm hss) (by omega)).more ha).app (wo2.more hb),fun S' g=>?_⟩
  exact .cons u us s ss' b q e (st1 S' (.later o2 (g.less ha (by omega) (by omega)) (sib hl hr0 hm hss) (by omega))) (st2 S' (g.less hb (by omega) (by omega)))
termination_by us=>(SizeOf.sizeOf us,0)
decreasing_by all_goals (simp_wf;first | (apply Prod.Lex.left;simp;omega) | (apply Prod.Lex.left;simp;done) | (apply Prod.Lex.left;omega))
theorem ex_plA:∀(us:List UT) (m:Nat) (y:PN) (k:Nat) (ss:List Nat) (b e:Nat) (S0:Sm),LyA is us b e→l[m]?=some y→dW l us m k ss→(∀t∈ss,t∈y.subs)→∃S,kT S0 S (jA l ss) b e∧OwS S (jA l ss) b e∧(2≤us.length→S.own b=some (.ch m))∧∀S',AgS S S' (jA l ss) b e→PlA S' l is m m us ss b e
 | [],m,y,k,ss,b,e,S0,h,hm,hr,hss=>by cases h
 | u::us,m,y,k,ss,b,e,S0,h,hm,hr,hss=>by
  have hr0:=hr
  cases hr with
  | cons _ _ _ _ s ss' x h1 h2 h3 h5 h6 =>
  have ha:∀i,Des l s i→jA l (s::ss') i:=fun i hi=>⟨s,by simp,hi⟩
  have hb:∀i,jA l ss' i→jA l (s::ss') i:=fun i ⟨t,ht,hi⟩=>⟨t,by simp[ht],hi⟩
  cases h with
  | last _ _ _ k1 =>
   obtain⟨S1,o1,wo1,st1⟩:=ex_pl u s b e S0 k1 h1
   cases h6
   exact⟨S1,o1.more ha (by omega) (by omega),wo1.more ha,fun h=>by simp at h,fun S' g=>.last m m u s b e (st1 S' (g.less ha (by omega) (by omega)))⟩
  | cons _ _ _ q _ k1 k2 k3 k4 =>
   obtain⟨S1,o1,wo1,w1,st1⟩:=ex_plO u m m s b q e S0 k3 h1 (fun j hj=>iQ hl hm (hss s (by simp)) hj) (Nat.le_refl _)
   obtain⟨S2,o2,wo2,w2,st2⟩:=ex_plA us m y (k+1) ss' q e S1 k4 hm h6 (fun t ht=>hss t (by simp[ht]))
   refine⟨S2,(o1.more ha (by omega) (by omega)).trans (o2.more hb (by omega) (by omega)),((OwS.later o2 wo1 (sib hl hr0 hm hss) (by omega)).more ha).app (wo2.more hb),fun _=>(o2.pc b (by omega)).trans w1,fun S' g=>?_⟩
   exact .cons m m u us s ss' b q e (st1 S' (.later o2 (g.less ha (by omega) (by omega)) (sib hl hr0 hm hss) (by omega))) (st2 S' (g.less hb (by omega) (by omega)))
termination_by us=>(SizeOf.sizeOf us,0)
decreasing_by all_goals (simp_wf;first | (apply Prod.Lex.left;simp;omega) | (apply Prod.Lex.left;simp;done) | (apply Prod.Lex.left;omega))
theorem ex_plO:∀(u:UT) (m i s b t e:Nat) (S0:Sm),LyO is u b t e→Rep l u s→(∀j,Des l s j→j < i)→i≤m→∃S,kT S0 S (Des l s) b t∧OwS S (Des l s) b t∧S.own b=some (.ch m)∧∀S',AgS S S' (Des l s) b t→PlO S' l is m i u s b t e
 | u,m,i,s,b,t,e,S0,h,hr,hi,him=>by
  cases h with
  | plain _ _ q _ y z h1 h2 h3 h4 h5 h6 h7 h8 h9 =>
   obtain⟨S,o,wo,st⟩:=ex_pl u s (b+1) q (setO (setO S0 b (some (.ch m))) q none) h6 hr
   have w:S.own b=some (.ch m):=by
    rw[o.pc b (by omega)]
    show ups _ q none b=_
    rw[kN _ _ (by omega)]
    exact bQ _ _ _
   have wq:S.own q=none:=by
    rw[o.pc q (by omega)]
    exact bQ _ _ _
   refine⟨S,((setO_out S0 _ (Nat.le_refl _) (by omega)).trans (setO_out _ none (by omega) (by omega))).trans (o.more (fun _ h=>h) (by omega) (by omega)),(OwS.cellC w).app (wo.app (.cellN wq)),w,fun S' g=>?_⟩
   exact .plain m i u s b q e y z (by omega) ((g.pc b (by omega) (by omega)).trans w) h2 h3 h4 h5 (st S' (g.less (fun _ h=>h) (by omega) (by omega))) ((g.pc q (by omega) (by omega)).trans wq) h7 h8 h9
  | nested _ ws _ _ _ h1 h2 h3 =>
   obtain⟨n,hn⟩:=ld_of (l:=l) h1 hr
   have ld:=ld_ok (S:=S0) (is:=is) hn hr
   have hsz:=ld.size
   obtain⟨x,g1,g2,g3⟩:=ld.rep.kind_alt
   have hd:∀i,jA l x.subs i→Des l s i:=fun i ⟨s',hs,hi⟩=>ld.des.trans (.sub n x s' i g1 (by omega) hs hi)
   have hnn:¬jA l x.subs n:=fun⟨s,hs,hi⟩=>by have:=iQ hl g1 hs hi;omega
   have hni:=hi n ld.des
   obtain⟨S,o,wo,w,st⟩:=ex_plOs ws m n x 0 x.subs b t e (setH S0 n m) h3 g1 g3 (fun t h=>h) (by omega)
   refine⟨S,(setH_out S0 ld.des).trans (o.more hd (Nat.le_refl _) (Nat.le_refl _)),wo.more hd,w h2,fun S' g=>?_⟩
   exact .nested m i u s n ws x b t e hn g1 (((g.nd n ld.des).2.2.trans (o.nd n hnn).2.2).trans (bQ _ _ _)) (by omega) hni h2 (st S' (g.less hd (Nat.le_refl _) (Nat.le_refl _)))
termination_by u=>(SizeOf.sizeOf u,1)
decreasing_by all_goals (simp_wf;first | (apply Prod.Lex.left;omega) | (apply Prod.Lex.right;omega))
theorem ex_plOs:∀(us:List UT) (m i:Nat) (y:PN) (k:Nat) (ss:List Nat) (b t e:Nat) (S0:Sm),LyOs is us b t e→l[i]?=some y→dW l us i k ss→(∀t∈ss,t∈y.subs)→i≤m→∃S,kT S0 S (jA l ss) b t∧OwS S (jA l ss) b t∧(b < t→S.own b=some (.ch m))∧∀S',AgS S S' (jA l ss) b t→PlOs S' l is m i us ss b t e
 | [],m,i,y,k,ss,b,t,e,S0,h,hm,hr,hss,him=>by
  cases h
  cases hr
  exact⟨S0,.rfl_ _ _ _ _,.nil _ _ _,fun h=>by omega,fun S' _=>.nil m i b e⟩
 | u::us,m,i,y,k,ss,b,t,e,S0,h,hm,hr,hss,him=>by
  cases h with
  | cons _ _ _ q _ _ k1 k2 k3 k4 =>
  have hr0:=hr
  cases hr with
  | cons _ _ _ _ s ss' x h1 h2 h3 h5 h6 =>
  have ha:∀i,Des l s i→jA l (s::ss') i:=fun i hi=>⟨s,by simp,hi⟩
  have hb:∀i,jA l ss' i→jA l (s::ss') i:=fun i ⟨t,ht,hi⟩=>⟨t,by simp[ht],hi⟩
  obtain⟨S1,o1,wo1,w1,st1⟩:=ex_plO u m i s b q e S0 k3 h1 (fun j hj=>iQ hl hm (hss s (by simp)) hj) him
  obtain⟨S2,o2,wo2,w2,st2⟩:=ex_plOs us m i y (k+1) ss' q t e S1 k4 hm h6 (fun t ht=>hss t (by simp[ht])) him
  refine⟨S2,(o1.more ha (by omega) (by omega)).trans (o2.more hb (by omega) (by omega)),((OwS.later o2 wo1 (sib hl hr0 hm hss) (by omega)).more ha).app (wo2.more hb),fun _=>(o2.pc b (by omega)).trans w1,fun S' g=>?_⟩
  exact .cons m i u us s ss' b q t e (st1 S' (.later o2 (g.less ha (by omega) (by omega)) (sib hl hr0 hm hss) (by omega))) (st2 S' (g.less hb (by omega) (by omega)))
termination_by us=>(SizeOf.sizeOf us,0)
decreasing_by all_goals (simp_wf;first | (apply Prod.Lex.left;simp;omega) | (apply Prod.Lex.left;simp;done) | (apply Prod.Lex.left;omega))
end
end
end Go.Proofs.Ytnkefclbchpafaa

/-
  A tree's simple form, and its program's row: plain. They lay the unfolded tree.
-/
namespace Go.Proofs.Ytnkefclbchpafaa
set_option linter.unusedVariables false
def aV:Tree:=.mk 1 [] 0 [] 0 0 false 0 .empty
def fH (l:List Tree):Tree:=.mk 4 [] 0 l 0 0 false 0 .empty
def eY (l:List Tree):Tree:=.mk 5 [] 0 l 0 0 false 0 .empty
def aY (y:Tree) (mn mx:Int) (lz:Bool):Tree:=.mk 6 [] 0 [y] mn mx lz 0 .empty
def aZ:List Tree→List Tree
 | []=>[]
 | t::l=>(if t.kind=1 then [] else if t.kind=4 then t.subs else [t])++aZ l
def bR (l:List Tree):Tree:=match aZ l with
 | []=>aV
 | [t]=>t
 | out=>fH out
def cK:List Tree→List Tree
 | []=>[]
 | t::l=>(if t.kind=5 then t.subs else [t])++cK l
def jD (y:Tree) (lz:Bool):Nat→Tree
 | 0=>aV
 | 1=>aY y 0 1 lz
 | k+2=>aY (bR [y,jD y lz (k+1)]) 0 1 lz
def kD (y:Tree) (mn mx:Int) (lz:Bool):Tree :=
 if mx=0 then aV
 else if mx=-1 then bR (List.replicate (mn - 1).toNat y++[aY y (min mn 1) (-1) lz])
 else bR (List.replicate mn.toNat y++[jD y lz (mx - mn).toNat])
mutual
def aH:Tree→Tree
 | .mk k rs am subs mn mx lz ix nm =>
  if k=7 then .mk k rs am [eu subs] mn mx lz ix nm
  else if k=4 then bR (aU subs)
  else if k=5 then eY (cK (aU subs))
  else if k=6 then kD (eu subs) mn mx lz
  else .mk k rs am subs mn mx lz ix nm
def aU:List Tree→List Tree
 | []=>[]
 | t::l=>aH t::aU l
def eu:List Tree→Tree
 | []=>aV
 | t::_=>aH t
end
def aT (op arg x y:Int) (rs:List (Int × Int)):av:=⟨op,x,y,arg,rs⟩
mutual
def aL:Tree→Nat
 | .mk k rs am subs mn mx lz ix nm =>
  if k=2 then 1 else if k=3 then 1
  else if k=7 then gF subs+2
  else if k=4 then dD subs
  else if k=5 then iL subs
  else if k=6 then (if mn=1 then gF subs+1 else if mx=-1 then gF subs+2 else gF subs+1)
  else 0
def dD:List Tree→Nat
 | []=>0
 | t::l=>aL t+dD l
def iL:List Tree→Nat
 | []=>0
 | [t]=>aL t
 | t::u::l=>aL t+2+iL (u::l)
def gF:List Tree→Nat
 | []=>0
 | t::_=>aL t
end
def iB (b e:Int) (lz:Bool):av:=if lz=true then aT 2 0 e b [] else aT 2 0 b e []
mutual
def bG:Tree→Nat→List av
 | .mk k rs am subs mn mx lz ix nm,b =>
  if k=2 then (if rs=[] then [aT 6 0 0 0 []] else [aT 1 0 (b+1) 0 rs])
  else if k=3 then [aT 4 am (b+1) 0 []]
  else if k=7 then aT 3 (2*ix) (b+1) 0 []::(iG subs (b+1)++[aT 3 (2*ix+1) (b+1+gF subs+1) 0 []])
  else if k=4 then dO subs b
  else if k=5 then gV subs b (b+iL subs)
  else if k=6 then
   (if mn=1 then iG subs b++[iB b (b+gF subs+1) lz]
     else if mx=-1 then iB (b+1) (b+gF subs+2) lz::(iG subs (b+1)++[aT 7 0 b 0 []])
     else iB (b+1) (b+gF subs+1) lz::iG subs (b+1))
  else []
def dO:List Tree→Nat→List av
 | [],_=>[]
 | t::l,b=>bG t b++dO l (b+aL t)
def gV:List Tree→Nat→Nat→List av
 | [],_,_=>[]
 | [t],b,_=>bG t b
 | t::u::l,b,e=>aT 2 0 (b+1) (b+aL t+2) []::(bG t (b+1)++(aT 7 0 e 0 []::gV (u::l) (b+aL t+2) e))
def iG:List Tree→Nat→List av
 | [],_=>[]
 | t::_,b=>bG t b
end
def gM:List Tree→Nat→Nat→List av
 | [],_,_=>[]
 | t::l,b,e=>aT 2 0 (b+1) (b+aL t+2) []::(bG t (b+1)++(aT 7 0 e 0 []::gM l (b+aL t+2) e))
def bf:List Tree→Nat
 | []=>0
 | t::l=>aL t+2+bf l
mutual
theorem bY:∀(t:Tree) (b:Nat),(bG t b).length=aL t
 | .mk k rs am subs mn mx lz ix nm,b=>by
  rw[bG,aL]
  split
  ·split <;> rfl
  split
  ·rfl
  split
  ·simp[layTH_len subs]
  split
  ·exact layTL_len subs b
  split
  ·exact layTA_len subs b _
  split
  ·split
   ·simp[layTH_len subs]
   ·split <;> simp[layTH_len subs]
  ·rfl
theorem layTL_len:∀(l:List Tree) (b:Nat),(dO l b).length=dD l
 | [],b=>by rw[dO,dD];rfl
 | t::l,b=>by rw[dO,dD,List.length_append,bY t,layTL_len l]
theorem layTA_len:∀(l:List Tree) (b e:Nat),(gV l b e).length=iL l
 | [],b,e=>by rw[gV,iL];rfl
 | [t],b,e=>by rw[gV,iL,bY t]
 | t::u::l,b,e=>by
  rw[gV,iL]
  simp only[List.length_cons,List.length_append,bY t,layTA_len (u::l)]
  omega
theorem layTH_len:∀(l:List Tree) (b:Nat),(iG l b).length=gF l
 | [],b=>by rw[iG,gF];rfl
 | t::_,b=>by rw[iG,gF,bY t]
end
theorem layTO_len:∀(l:List Tree) (b e:Nat),(gM l b e).length=bf l
 | [],b,e=>rfl
 | t::l,b,e=>by
  rw[gM,bf]
  simp only[List.length_cons,List.length_append,bY t,layTO_len l]
  omega
theorem layTA_app:∀(l r:List Tree) (b e:Nat),r≠[]→gV (l++r) b e=gM l b e++gV r (b+bf l) e
 | [],r,b,e,h=>rfl
 | t::l,r,b,e,h=>by
  obtain⟨u,l',hl⟩:=List.exists_cons_of_ne_nil (show l++r≠[] by simp[h])
  rw[List.cons_append,hl,gV,gM,←hl,layTA_app l r _ _ h,bf]
  simp only[List.cons_append,List.append_assoc]
  rw[show b+aL t+2+bf l=b+(aL t+2+bf l) by omega]
theorem layTO_app:∀(l r:List Tree) (b e:Nat),gM (l++r) b e=gM l b e++gM r (b+bf l) e
 | [],r,b,e=>rfl
 | t::l,r,b,e=>by
  rw[List.cons_append,gM,gM,layTO_app l r,bf]
  simp only[List.cons_append,List.append_assoc]
  rw[show b+aL t+2+bf l=b+(aL t+2+bf l) by omega]
theorem lenTA_app:∀(l r:List Tree),r≠[]→iL (l++r)=bf l+iL r
 | [],r,h=>(Nat.zero_add _).symm
 | t::l,r,h=>by
  obtain⟨u,l',hl⟩:=List.exists_cons_of_ne_nil (show l++r≠[] by simp[h])
  rw[List.cons_append,hl,iL,←hl,lenTA_app l r h,bf]
  omega
theorem lenTO_app:∀(l r:List Tree),bf (l++r)=bf l+bf r
 | [],r=>(Nat.zero_add _).symm
 | t::l,r=>by rw[List.cons_append,bf,bf,lenTO_app l r];omega
theorem layTL_app:∀(l r:List Tree) (b:Nat),dO (l++r) b=dO l b++dO r (b+dD l)
 | [],r,b=>by rw[dO,dD];rfl
 | t::l,r,b=>by rw[List.cons_append,dO,dO,layTL_app l r,dD,List.append_assoc,show b+aL t+dD l=b+(aL t+dD l) by omega]
theorem lenTL_app:∀(l r:List Tree),dD (l++r)=dD l+dD r
 | [],r=>by rw[dD];exact(Nat.zero_add _).symm
 | t::l,r=>by rw[List.cons_append,dD,dD,lenTL_app l r];omega
theorem layT_1 {t:Tree} (h:t.kind=1) (b:Nat):bG t b=[]∧aL t=0:=by
 obtain⟨k,rs,am,subs,mn,mx,lz,ix,nm⟩:=t
 have h:k=1:=h
 subst h
 exact⟨by rw[bG];rfl,by rw[aL];rfl⟩
theorem layT_4 {t:Tree} (h:t.kind=4) (b:Nat):bG t b=dO t.subs b∧aL t=dD t.subs:=by
 obtain⟨k,rs,am,subs,mn,mx,lz,ix,nm⟩:=t
 have h:k=4:=h
 subst h
 exact⟨by rw[bG];rfl,by rw[aL];rfl⟩
theorem layT_5 {t:Tree} (h:t.kind=5) (b:Nat):bG t b=gV t.subs b (b+iL t.subs)∧aL t=iL t.subs:=by
 obtain⟨k,rs,am,subs,mn,mx,lz,ix,nm⟩:=t
 have h:k=5:=h
 subst h
 exact⟨by rw[bG];rfl,by rw[aL];rfl⟩
theorem iA (t:Tree) (b:Nat):dO [t] b=bG t b∧dD [t]=aL t:=⟨by rw[dO,dO,List.append_nil],by rw[dD,dD];rfl⟩
theorem flatJ_lay:∀(l:List Tree) (b:Nat),dO (aZ l) b=dO l b∧dD (aZ l)=dD l
 | [],b=>⟨rfl,rfl⟩
 | t::l,b=>by
  obtain⟨h1,h2⟩:=flatJ_lay l (b+aL t)
  rw[aZ,layTL_app,lenTL_app,dO,dD,h2]
  by_cases k1:t.kind=1
  ·rw[(layT_1 k1 b).2] at h1
   rw[if_pos k1,(layT_1 k1 b).1,(layT_1 k1 b).2,dD,dO,List.nil_append,List.nil_append]
   exact⟨h1,rfl⟩
  rw[if_neg k1]
  by_cases k4:t.kind=4
  ·rw[(layT_4 k4 b).2] at h1
   rw[if_pos k4,(layT_4 k4 b).1,(layT_4 k4 b).2,h1]
   exact⟨rfl,rfl⟩
  rw[if_neg k4,(iA t b).1,(iA t b).2,h1]
  exact⟨rfl,rfl⟩
theorem joinT_lay (l:List Tree) (b:Nat):bG (bR l) b=dO l b∧aL (bR l)=dD l:=by
 obtain⟨h1,h2⟩:=flatJ_lay l b
 rw[←h1,←h2]
 unfold bR
 split
 ·rename_i h
  rw[h]
  exact⟨by rw[dO];exact(layT_1 rfl b).1,by rw[dD];exact(layT_1 rfl b).2⟩
 ·rename_i t h
  rw[h]
  exact⟨(iA t b).1.symm,(iA t b).2.symm⟩
 ·rename_i out _ _
  exact layT_4 (t:=fH _) rfl b
end Go.Proofs.Ytnkefclbchpafaa

/-
  A region that draws its order, whose LAST operation writes what its other operations load: a condition S on the world is kept by all operations but that one; what yields under S, and is awaited by that one, may be taken first. (The library's OrdersHeld asks S behind the last one, too.)
-/
namespace Go.Proofs.Ytnkefclbchpafaa
set_option linter.unusedVariables false
section
variable {P : Program} {ops : Array Oper} {Q : Exit → Act → World → Prop} {md : Region.Mode} {S : World → Prop} {n : Nat}
def aP (P:Program) (md:Region.Mode) (ops:Array Oper) (Q:Exit→Act→World→Prop) (S:World→Prop) (n:Nat):Nat→Array Bool→Act→World→Prop
 | 0,listed,a,w=>Region.ready md ops listed=[]∧Q .normal a w
 | fuel+1,listed,a,w=>(Region.ready md ops listed=[]→Q .normal a w) ∧
  ∀i∈Region.ready md ops listed,wpOp P ops Q i (fun a' w'=>(i=n∨S w')∧aP P md ops Q S n fuel (listed.setIfInBounds i true) a' w') a w
theorem aP.any:∀(fuel:Nat) (listed:Array Bool) (a:Act) (w:World),aP P md ops Q S n fuel listed a w→wpAny P md ops Q fuel listed a w
 | 0,_,_,_,h=>h
 | fuel+1,_,_,_,h=>⟨h.1,fun i hi=>wpOp_mono (fun _ _ k=>aP.any fuel _ _ _ k.2) (h.2 i hi)⟩
theorem aP.first {i:Nat} {oi:Oper} {v:Value} (hi:ops[i]?=some oi) (hsel:∀(j:Nat) (o:Oper) cs b,ops[j]?=some o→o.op≠.select cs b)
  (hQ:∀c a w,Q (.panic c) (a.put oi.dst v) w→Q (.panic c) a w) (hn:Region.waitsFor md ops n i=true) :
  ∀(fuel:Nat) (listed:Array Bool) (a:Act) (w:World),
   (∀j oj,ops[j]?=some oj→j≠i→listed.getD j true=false→(∀e∈oj.after,Region.binds md e=true→e.on≠i)→oi.apart ops oj=true) →
   i∈Region.ready md ops listed→YieldsIf P ops S oi v a→S w →
   aP P md ops Q S n fuel (listed.setIfInBounds i true) (a.put oi.dst v) w→aP P md ops Q S n (fuel+1) listed a w:=by
 obtain⟨on,hon,en,hen,hbn,hin⟩:=Region.waitsFor_spec hn
 intro fuel
 induction fuel with
 | zero =>
  intro listed a w _ hr hy hS H
  refine⟨fun h=>(by rw[h] at hr;cases hr),fun j hj=>?_⟩
  by_cases hji:j=i
  ·subst hji
   exact hy.wpOp hi hS ⟨.inr hS,H⟩
  ·have hz:=ready_mono hj hji
   rw[H.1] at hz
   cases hz
 | succ fuel ih =>
  intro listed a w hfree hr hy hS H
  refine⟨fun h=>(by rw[h] at hr;cases hr),fun j hj=>?_⟩
  by_cases hji:j=i
  ·subst hji
   exact hy.wpOp hi hS ⟨.inr hS,H⟩
  ·obtain⟨hjun,oj,hoj,hall⟩:=mem_ready.1 hj
   have hun:=(mem_ready.1 hr).1
   have hnot:∀e∈oj.after,Region.binds md e=true→e.on≠i:=fun e he hb heq=>by
    have h1:=hall e he hb
    rw[heq] at h1
    rcases Nat.lt_or_ge i listed.size with hlt | hge
    ·simp[hlt] at hun h1
     rw[hun] at h1
     cases h1
    ·simp[Array.getElem?_eq_none hge] at h1
   have hjn:j≠n:=fun e=>by
    subst e
    rw[hoj] at hon
    injection hon with hon
    subst hon
    exact hnot en hen hbn hin
   refine wpOp_mono (fun a' w' h3=>?_) (wpOp_putIf hoj (hfree j oj hoj hji hjun hnot) (fun cs b=>hsel i oi cs b hi) (fun cs b=>hsel j oj cs b hoj) hQ hy (H.2 j (ready_mono hj hji)))
   have hS':S w':=h3.2.1.resolve_left hjn
   refine⟨.inr hS',ih (listed.setIfInBounds j true) a' w' (fun k ok hk hki hku hno=>?_) (ready_mono hr (Ne.symm hji)) h3.1 hS' ?_⟩
   ·refine hfree k ok hk hki ?_ hno
    by_cases hjk:j=k
    ·subst hjk;exact hjun
    ·rw[getD_set_ne true hjk] at hku;exact hku
   ·rw[Array.setIfInBounds_comm _ _ hji]
    exact h3.2.2
theorem aP.take {i:Nat} {oi:Oper} {v:Value} {fuel:Nat} {listed:Array Bool} {a:Act} {w:World} (hi:ops[i]?=some oi)
  (hs:Region.noSelect ops=true) (hf:Region.free md ops listed i=true) (hr:(Region.ready md ops listed).contains i=true) (hn:Region.waitsFor md ops n i=true)
  (hQ:∀c a w,Q (.panic c) (a.put oi.dst v) w→Q (.panic c) a w) (hy:YieldsIf P ops S oi v a) (hS:S w)
  (h:aP P md ops Q S n fuel (listed.setIfInBounds i true) (a.put oi.dst v) w):aP P md ops Q S n (fuel+1) listed a w :=
 aP.first hi (Region.noSelect_spec hs) hQ hn fuel listed a w (Region.free_spec hi hf) (by simpa using hr) hy hS h
theorem aP.all {rs:List Nat} {fuel:Nat} {listed:Array Bool} {a:Act} {w:World} (hr:Region.ready md ops listed=rs) (hne:rs≠[])
  (h:∀i∈rs,wpOp P ops Q i (fun a' w'=>(i=n∨S w')∧aP P md ops Q S n fuel (listed.setIfInBounds i true) a' w') a w):aP P md ops Q S n (fuel+1) listed a w :=
 ⟨fun h0=>absurd (hr ▸ h0) hne,hr ▸ h⟩
theorem aP.one {i:Nat} {o:Oper} {fuel:Nat} {listed:Array Bool} {a:Act} {w:World} (hr:Region.ready md ops listed=[i]) (ho:ops[i]?=some o)
  (h:∀K':Act→World→Prop,Shut (∀a w,(i=n∨S w)→aP P md ops Q S n fuel (listed.setIfInBounds i true) a w→K' a w)→if Region.wanted o (yielded ops a.tmps)=true then Oper.wp P o a w K' Q else K' (a.put o.dst undef) w):aP P md ops Q S n (fuel+1) listed a w :=
 aP.all hr (by simp) (fun j hj=>by
  rw[List.mem_singleton] at hj
  subst hj
  exact wpOp_step ho (fun K' hK=>h K' (fun a w h1 h2=>hK a w ⟨h1,h2⟩)))
theorem aP.two {i j:Nat} {o p:Oper} {fuel:Nat} {listed:Array Bool} {a:Act} {w:World} (hr:Region.ready md ops listed=[i,j]) (ho:ops[i]?=some o) (hp:ops[j]?=some p)
  (h:∀K':Act→World→Prop,Shut (∀a w,(i=n∨S w)→aP P md ops Q S n fuel (listed.setIfInBounds i true) a w→K' a w)→if Region.wanted o (yielded ops a.tmps)=true then Oper.wp P o a w K' Q else K' (a.put o.dst undef) w)
  (k:∀K':Act→World→Prop,Shut (∀a w,(j=n∨S w)→aP P md ops Q S n fuel (listed.setIfInBounds j true) a w→K' a w)→if Region.wanted p (yielded ops a.tmps)=true then Oper.wp P p a w K' Q else K' (a.put p.dst undef) w):aP P md ops Q S n (fuel+1) listed a w :=
 aP.all hr (by simp) (fun q hq=>by
  simp only[List.mem_cons,List.not_mem_nil,or_false] at hq
  rcases hq with rfl | rfl
  ·exact wpOp_step ho (fun K' hK=>h K' (fun a w h1 h2=>hK a w ⟨h1,h2⟩))
  ·exact wpOp_step hp (fun K' hK=>k K' (fun a w h1 h2=>hK a w ⟨h1,h2⟩)))
theorem aP.done {listed:Array Bool} {a:Act} {w:World} (hr:Region.ready md ops listed=[]) (h:Q .normal a w):∀fuel,aP P md ops Q S n fuel listed a w
 | 0=>⟨hr,h⟩
 | _+1=>⟨fun _=>h,by rw[hr];simp⟩
theorem aP.begin {id:Nat} {a:Act} {w:World} (n:Nat) (S:World→Prop) (hm:P.follows .mixedOrders=true) (hS:S w.drew)
  (h:S w.drew→aP P .any ops Q S n ops.size (Array.replicate ops.size false) a w.drew):(Code.region id ops true).wp P Q a w :=
 wp_region_any hm (aP.any _ _ _ _ (h hS))
end
def QuietQ (G:List PanicEntry→Act→World→Prop) (Q:Exit→Act→World→Prop):Exit→Act→World→Prop
 | .panic c,a,w=>G c a w
 | e,a,w=>Q e a w
theorem QuietQ.imp {G:List PanicEntry→Act→World→Prop} {Q:Exit→Act→World→Prop} (h:∀c a w,G c a w→Q (.panic c) a w):∀(e:Exit) (a:Act) (w:World),QuietQ G Q e a w→Q e a w:=fun e a w k=>by
 cases e <;> first | exact k | exact h _ _ _ k
end Go.Proofs.Ytnkefclbchpafaa
