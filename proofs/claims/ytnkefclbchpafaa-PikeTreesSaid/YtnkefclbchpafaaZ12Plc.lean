/-
  SimD, SimE, Plc, put together.
-/
import Derived.Test.YtnkefclbchpafaaZ11SimB

/-
  The first walk through the row of nodes is the first walk through its program. Plain.
-/
namespace Go.Proofs.Ytnkefclbchpafaa
set_option linter.unusedVariables false
section
variable {S : Sm} {l : List PN} {is : List av} {E : Env} {text : List Int} {Ba : AS → Prop} {Bb : BC → Prop}
theorem own_core (ok:kV S l is E text) {z:AS} (v:vz S z) (nn:¬nest S z):(∃n p,z=.B n p∧S.own (S.kb n)=some (.nB n))∨(∃n p,z=.B n p∧S.own (S.kb n)=some (.ch n))∨(∃n p,z=.D n p∧S.own (S.kd n)=some (.nD n))∨∃p,z=.E p:=by
 cases z with
 | E p=>exact .inr (.inr (.inr ⟨p,rfl⟩))
 | D n p =>
  obtain⟨x,hx⟩:=ok.vdl n v
  exact .inr (.inr (.inl ⟨n,p,rfl,(ok.kl n x v hx).1⟩))
 | B n p =>
  obtain⟨x,hx⟩:=ok.vl n v
  rcases ok.kn n x v hx with hk | hk | hk | hk
  ·exact .inl ⟨n,p,rfl,(ok.k2 n x v hx hk).1⟩
  ·exact .inl ⟨n,p,rfl,(ok.k3 n x v hx hk).1⟩
  ·exact .inr (.inl ⟨n,p,rfl,(ok.k5 n x v hx hk (Classical.byContradiction nn)).1⟩)
  ·exact .inl ⟨n,p,rfl,(ok.kq n x v hx hk).1⟩
theorem pc_inj (ok:kV S l is E text) {z r:AS} (v:vz S z) (nn:¬nest S z) (v':vz S r) (nn':¬nest S r) (he:pcA S z=pcA S r) (hp:plc z=plc r):z=r:=by
 have e0:=ok.e0
 rcases own_core ok v nn with⟨n,p,rfl,h⟩ | ⟨n,p,rfl,h⟩ | ⟨n,p,rfl,h⟩ | ⟨p,rfl⟩ <;> rcases own_core ok v' nn' with⟨m,q,rfl,g⟩ | ⟨m,q,rfl,g⟩ | ⟨m,q,rfl,g⟩ | ⟨q,rfl⟩ <;> simp only[pcA,plc] at he hp <;> subst hp
 all_goals first
  | rfl
  | (rw[he] at h;rw[h] at g;injection g with g;injection g with g;subst g;rfl)
  | (rw[he] at h;rw[h] at g;injection g with g;cases g)
  | (rw[he] at h;rw[h] at e0;injection e0 with e0;cases e0)
  | (rw[←he] at g;rw[g] at e0;injection e0 with e0;cases e0)
theorem own_some (ok:kV S l is E text) {z:AS} (v:vz S z) (nn:¬nest S z):S.own (pcA S z)≠none:=by
 rcases own_core ok v nn with⟨n,p,rfl,h⟩ | ⟨n,p,rfl,h⟩ | ⟨n,p,rfl,h⟩ | ⟨p,rfl⟩
 ·show S.own (S.kb n)≠none;rw[h];simp
 ·show S.own (S.kb n)≠none;rw[h];simp
 ·show S.own (S.kd n)≠none;rw[h];simp
 ·show S.own S.pe≠none;rw[ok.e0];simp
theorem BR.cur (br:BR S l is Ba Bb noA 0) (z:AS→Prop) (k:Nat):BR S l is Ba Bb z k :=
 ⟨br.toB,br.ofB,br.ofD,br.ofC,fun q p q' g k' a b c z' v n d e=>by
  rcases br.ofN q p q' g k' a b c z' v n d e with h | h
  ·exact .inl h
  ·exact h.1.elim,br.hd,br.noE,br.noP⟩
theorem BR.core (ok:kV S l is E text) {z:AS} (br:BR S l is Ba Bb (fun y=>y=z) 0) (v:vz S z) (nn:¬nest S z) (hE:∀p,z≠.E p):BR S l is (ins Ba z) (ins Bb (pcA S z,plc z)) noA 0:=by
 have hown:=own_some ok v nn
 refine⟨fun y hy vy ny=>?_,fun q n p ho hb=>?_,fun q n p ho hb=>?_,fun q m p ho hb=>?_,fun q p q' g k' ho hb hr y vy ny hp he=>?_,fun n p hb hv=>?_,fun p hb=>?_,fun p=>⟨fun hb=>?_,fun hb=>?_⟩⟩
 ·rcases hy with rfl | hy
  ·exact .inl rfl
  ·exact .inr (br.toB y hy vy ny)
 ·rcases hb with hb | hb
  ·injection hb with e1 e2
   subst e1 e2
   left
   rcases own_core ok v nn with⟨n',p',rfl,h⟩ | ⟨n',p',rfl,h⟩ | ⟨n',p',rfl,h⟩ | ⟨p',rfl⟩
   ·have:S.own (S.kb n')=some (.nB n):=ho
    rw[h] at this;injection this with this;injection this with this;subst this;rfl
   ·have:S.own (S.kb n')=some (.nB n):=ho
    rw[h] at this;injection this with this;cases this
   ·have:S.own (S.kd n')=some (.nB n):=ho
    rw[h] at this;injection this with this;cases this
   ·exact absurd rfl (hE p')
  ·exact .inr (br.ofB q n p ho hb)
 ·rcases hb with hb | hb
  ·injection hb with e1 e2
   subst e1 e2
   left
   rcases own_core ok v nn with⟨n',p',rfl,h⟩ | ⟨n',p',rfl,h⟩ | ⟨n',p',rfl,h⟩ | ⟨p',rfl⟩
   ·have:S.own (S.kb n')=some (.nD n):=ho
    rw[h] at this;injection this with this;cases this
   ·have:S.own (S.kb n')=some (.nD n):=ho
    rw[h] at this;injection this with this;cases this
   ·have:S.own (S.kd n')=some (.nD n):=ho
    rw[h] at this;injection this with this;injection this with this;subst this;rfl
   ·exact absurd rfl (hE p')
  ·exact .inr (br.ofD q n p ho hb)
 ·rcases hb with hb | hb
  ·injection hb with e1 e2
   subst e1 e2
   left
   rcases own_core ok v nn with⟨n',p',rfl,h⟩ | ⟨n',p',rfl,h⟩ | ⟨n',p',rfl,h⟩ | ⟨p',rfl⟩
   ·have:S.own (S.kb n')=some (.ch m):=ho
    rw[h] at this;injection this with this;cases this
   ·have:S.own (S.kb n')=some (.ch m):=ho
    rw[h] at this;injection this with this;injection this with this;subst this;rfl
   ·have:S.own (S.kd n')=some (.ch m):=ho
    rw[h] at this;injection this with this;cases this
   ·exact absurd rfl (hE p')
  ·exact .inr (br.ofC q m p ho hb)
 ·rcases hb with hb | hb
  ·injection hb with e1 e2
   subst e1
   exact absurd ho hown
  ·rcases br.ofN q p q' g k' ho hb hr y vy ny hp he with h | h
   ·exact .inl (.inr h)
   ·exact .inl (.inl h.1)
 ·rcases hb with hb | hb
  ·subst hb
   have:S.hd n=n:=Classical.byContradiction nn
   rw[this]
   exact .inl rfl
  ·exact .inr (br.hd n p hb hv)
 ·rcases hb with hb | hb
  ·exact hE p hb.symm
  ·exact br.noE p hb
 ·rcases hb with hb | hb
  ·injection hb with e1 e2
   have:z=.E (plc z):=pc_inj ok v nn (r:=.E (plc z)) trivial (fun h=>h) e1.symm rfl
   exact hE _ this
  ·exact(br.noP p).1 hb
 ·rcases hb with hb | hb
  ·injection hb with e1 e2
   exact hown (by rw[←e1];exact ok.e3)
  ·exact(br.noP p).2 hb
theorem BR.chain (ok:kV S l is E text) {m p:Nat} {Bb':BC→Prop} (br:BR S l is Ba Bb noA 0) (hm:Ba (.B m p)) (h1:∀y,Bb y→Bb' y) (h2:∀y,Bb' y→Bb y∨∃q,y=(q,p)∧S.own q=some (.ch m)):BR S l is Ba Bb' noA 0:=by
 have e0:=ok.e0
 refine⟨fun y hy vy ny=>h1 _ (br.toB y hy vy ny),fun q n p' ho hb=>?_,fun q n p' ho hb=>?_,fun q m' p' ho hb=>?_,fun q p' q' g k' ho hb hr y vy ny hp he=>?_,br.hd,br.noE,fun p'=>⟨fun hb=>?_,fun hb=>?_⟩⟩
 ·rcases h2 _ hb with h | ⟨q',e,h⟩
  ·exact br.ofB q n p' ho h
  ·injection e with e1 e2;subst e1;rw[ho] at h;injection h with h;cases h
 ·rcases h2 _ hb with h | ⟨q',e,h⟩
  ·exact br.ofD q n p' ho h
  ·injection e with e1 e2;subst e1;rw[ho] at h;injection h with h;cases h
 ·rcases h2 _ hb with h | ⟨q',e,h⟩
  ·exact br.ofC q m' p' ho h
  ·injection e with e1 e2;subst e1 e2;rw[ho] at h;injection h with h;injection h with h;subst h;exact hm
 ·rcases h2 _ hb with h | ⟨q'',e,h⟩
  ·exact br.ofN q p' q' g k' ho h hr y vy ny hp he
  ·injection e with e1 e2;subst e1;rw[ho] at h;cases h
 ·rcases h2 _ hb with h | ⟨q',e,h⟩
  ·exact(br.noP p').1 h
  ·injection e with e1 e2;subst e1;rw[e0] at h;injection h with h;cases h
 ·rcases h2 _ hb with h | ⟨q',e,h⟩
  ·exact(br.noP p').2 h
  ·injection e with e1 e2;subst e1;rw[ok.e3] at h;cases h
theorem BR.inner {n p:Nat} (br:BR S l is Ba Bb noA 0) (hm:Ba (.B (S.hd n) p)) (hn:S.hd n≠n):BR S l is (ins Ba (.B n p)) Bb noA 0:=by
 refine⟨fun y hy vy ny=>?_,fun q n p ho hb=>.inr (br.ofB q n p ho hb),fun q n p ho hb=>.inr (br.ofD q n p ho hb),fun q m p ho hb=>.inr (br.ofC q m p ho hb),fun q p q' g k' ho hb hr y vy ny hp he=>?_,fun n' p' hb hv=>?_,fun p hb=>?_,br.noP⟩
 ·rcases hy with rfl | hy
  ·exact absurd hn ny
  ·exact br.toB y hy vy ny
 ·rcases br.ofN q p q' g k' ho hb hr y vy ny hp he with h | h
  ·exact .inl (.inr h)
  ·exact .inr h
 ·rcases hb with hb | hb
  ·injection hb with e1 e2;subst e1 e2;exact .inr hm
  ·exact .inr (br.hd n' p' hb hv)
 ·rcases hb with hb | hb
  ·cases hb
  ·exact br.noE p hb
theorem rt_gd (ok:kV S l is E text) {p:Nat} {r:AS} (v:vz S r) (nn:¬nest S r) (hp:plc r=p) (hr:¬Ba r) {e:BC × List Int} {b q:Nat} {g:Nat→CpF} {k:Nat} (h:Rt S is b q g k):∀(Bb:BC→Prop) (c:List Int),BR S l is Ba Bb (fun y=>y=r) k→q=pcA S r →
  (∀Bb',BR S l is Ba Bb' (fun y=>y=r) 0→GdP is text Bb' (q,p) (g p c) e)→GdP is text Bb (b,p) c e:=by
 induction h with
 | nil q h=>exact fun Bb c br _ hk=>hk _ br
 | nop b x q g k h1 h2 h3 h4 ih =>
  intro Bb c br eq hk
  have hb:¬Bb (b,p):=fun hb=>by
   rcases br.ofN b p q _ (k+1) h1 hb (.nop b x q g k h1 h2 h3 h4) r v nn hp eq.symm with h | ⟨_,h⟩
   ·exact hr h
   ·omega
  refine .go Bb _ c [] (x.x.toNat,p) id [] e hb (by rw[bV h2,mvI_7 h3];rfl) (fun z hz=>by simp at hz) (ih _ _ ?_ eq hk)
  exact step_br ok v nn hp br h1 (.nop b x q g k h1 h2 h3 h4) eq (by
   intro e1
   subst e1
   obtain⟨y,hy,h5⟩:=ok.e2
   rw[h2] at hy;injection hy with hy;subst hy;omega)
 | cap b x q g k h1 h2 h3 h4 ih =>
  intro Bb c br eq hk
  have hb:¬Bb (b,p):=fun hb=>by
   rcases br.ofN b p q _ (k+1) h1 hb (.cap b x q g k h1 h2 h3 h4) r v nn hp eq.symm with h | ⟨_,h⟩
   ·exact hr h
   ·omega
  refine .go Bb _ c [] (x.x.toNat,p) (jy x.arg p) [] e hb (by rw[bV h2,mvI_3 h3];rfl) (fun z hz=>by simp at hz) (ih _ _ ?_ eq hk)
  exact step_br ok v nn hp br h1 (.cap b x q g k h1 h2 h3 h4) eq (by
   intro e1
   subst e1
   obtain⟨y,hy,h5⟩:=ok.e2
   rw[h2] at hy;injection hy with hy;subst hy;omega)
where
 step_br (ok:kV S l is E text) {p:Nat} {r:AS} (v:vz S r) (nn:¬nest S r) (hp:plc r=p) {Bb:BC→Prop} {b q:Nat} {g:Nat→CpF} {k:Nat} (br:BR S l is Ba Bb (fun y=>y=r) (k+1)) (h1:S.own b=none) (hrt:Rt S is b q g (k+1)) (eq:q=pcA S r) (hpe:b≠S.pe+1):BR S l is Ba (ins Bb (b,p)) (fun y=>y=r) k:=by
  refine⟨fun y hy vy ny=>.inr (br.toB y hy vy ny),fun q n p' ho hb=>?_,fun q n p' ho hb=>?_,fun q m p' ho hb=>?_,fun q2 p' q' g' k' ho hb hr y vy ny hp' he=>?_,br.hd,br.noE,fun p'=>⟨fun hb=>?_,fun hb=>?_⟩⟩
  ·rcases hb with hb | hb
   ·injection hb with e1 e2;subst e1;rw[h1] at ho;cases ho
   ·exact br.ofB q n p' ho hb
  ·rcases hb with hb | hb
   ·injection hb with e1 e2;subst e1;rw[h1] at ho;cases ho
   ·exact br.ofD q n p' ho hb
  ·rcases hb with hb | hb
   ·injection hb with e1 e2;subst e1;rw[h1] at ho;cases ho
   ·exact br.ofC q m p' ho hb
  ·rcases hb with hb | hb
   ·injection hb with e1 e2
    subst e1 e2
    obtain⟨e3,e4⟩:=hrt.det hr
    right
    exact⟨pc_inj ok vy ny v nn (by rw[he,←e3,eq]) (by rw[hp',hp]),by omega⟩
   ·rcases br.ofN q2 p' q' g' k' ho hb hr y vy ny hp' he with h | ⟨h,h'⟩
    ·exact .inl h
    ·exact .inr ⟨h,by omega⟩
  ·rcases hb with hb | hb
   ·injection hb with e1 e2;rw[←e1,ok.e0] at h1;cases h1
   ·exact(br.noP p').1 hb
  ·rcases hb with hb | hb
   ·injection hb with e1 e2;exact hpe e1.symm
   ·exact(br.noP p').2 hb
def eB (S:Sm):AS × List Int→BC × List Int
 | (.E p,c)=>((S.pe+1,p),jy 1 p c)
 | (_,c)=>((0,0),c)
def Fresh (S:Sm) (m p b:Nat) (Bb:BC→Prop):Prop:=∀q,S.own q=some (.ch m)→Bb (q,p)→q < b
def Deep (S:Sm) (Ba:AS→Prop) (m p i:Nat):Prop:=∀n,S.va n→S.hd n=m→Ba (.B n p)→i≤n
theorem cf_gd (ok:kV S l is E text) (br:BR S l is Ba Bb noA 0) {k:FK0} {b p:Nat} (h:CF S l is k b) {r:AS} {f:CpF} (hr:(r,f)∈frO l (fk k p)) (hh:HtA E l Ba r) {c:List Int} {e:BC × List Int}
  (hA:vz S r→¬nest S r→plc r=p→∀Bb',BR S l is Ba Bb' (fun y=>y=r) 0→GdP is text Bb' (pcA S r,p) (f c) e):GdP is text Bb (b,p) c e:=by
 obtain⟨z,f',g,j,h1,-,h2,h3,h4,h5,h6⟩:=h.at_ p
 rw[h1] at hr
 simp at hr
 obtain⟨rfl,rfl⟩:=hr
 exact rt_gd ok h2 h3 h4 hh.notB h5 Bb c (br.cur _ _) rfl (fun Bb' br'=>by rw[h6];exact hA h2 h3 h4 Bb' br')
theorem cf_dead (ok:kV S l is E text) (br:BR S l is Ba Bb noA 0) {k:FK0} {b p:Nat} (h:CF S l is k b) (hd:∀v∈frO l (fk k p),¬HtA E l Ba v.1):¬HtP is text Bb (b,p):=by
 obtain⟨z,f',g,j,h1,-,h2,h3,h4,h5,h6⟩:=h.at_ p
 intro hh
 refine hd (z,f') (by rw[h1];simp) ?_
 rw[←h4] at hh
 exact(he_iff ok br h2 h3 h5).2 hh
theorem br_b (ok:kV S l is E text) {m p b:Nat} (br:BR S l is Ba (ins Bb (S.kb m,p)) noA 0) (hm:Ba (.B m p)) (hb:b=S.kb m∨Bb (S.kb m,p)) (ho:S.own b=some (.ch m)):BR S l is Ba (ins Bb (b,p)) noA 0:=by
 have hsub:∀y,ins Bb (b,p) y→ins Bb (S.kb m,p) y∨∃q,y=(q,p)∧S.own q=some (.ch m):=fun y hy=>by
  rcases hy with hy | hy
  ·exact .inr ⟨b,hy,ho⟩
  ·exact .inl (.inr hy)
 refine BR.chain ok br hm (fun y hy=>?_) hsub
 rcases hy with hy | hy
 ·subst hy
  rcases hb with hb | hb
  ·rw[hb];exact .inl rfl
  ·exact .inr hb
 ·exact .inr hy
theorem br_kb (ok:kV S l is E text) {m p:Nat} (br:BR S l is Ba Bb noA 0) (hk:Bb (S.kb m,p)):BR S l is Ba (ins Bb (S.kb m,p)) noA 0:=by
 have e:ins Bb (S.kb m,p)=Bb:=by
  funext y
  simp only[ins,eq_iff_iff]
  exact⟨fun h=>by rcases h with h | h;rw[h];exact hk;exact h,.inr⟩
 rw[e]
 exact br
theorem skip (ok:kV S l is E text) {m p i:Nat} {ms:List Nat} {b:Nat} {tt:Option Nat} (h:Ch S l is m i ms b tt):∀(t:Nat) (Ba:AS→Prop) (Bb:BC→Prop),tt=some t→BR S l is Ba (ins Bb (S.kb m,p)) noA 0→Ba (.B m p)→(b=S.kb m∨Bb (S.kb m,p))→Fresh S m p b Bb→Deep S Ba m p i→(∀s∈ms,∀v∈frO l (.B s p),¬HtA E l Ba v.1) →
  ∃Bb',(∀y,Bb y→Bb' y)∧(∀y,Bb' y→Bb y∨∃q,y=(q,p)∧S.own q=some (.ch m))∧(t=b∨Bb' (b,p))∧Fresh S m p t Bb'∧b≤t∧∀c e,GdP is text Bb' (t,p) c e→GdP is text Bb (b,p) c e:=by
 induction h with
 | last i s b h1=>intro t Ba Bb e;cases e
 | nil i t =>
  intro t' Ba Bb e br hm hb hf hdp hd
  injection e with e
  subst e
  exact⟨Bb,fun _ h=>h,fun _ h=>.inl h,.inl rfl,hf,Nat.le_refl _,fun _ _ h=>h⟩
 | plain i s r b x t h1 h2 h3 h4 h5 h6 ihc =>
  intro t' Ba Bb e br hm hb hf hdp hd
  have br1:=br_b ok br hm hb h4
  have hk1:ins Bb (b,p) (S.kb m,p):=by
   rcases hb with hb | hb
   ·rw[hb];exact .inl rfl
   ·exact .inr hb
  have hnb:¬Bb (b,p):=fun hh=>by have:=hf b h4 hh;omega
  obtain⟨Bb',k1,k2,k3,k4,k5,k6⟩:=ihc t' Ba (ins Bb (b,p)) e (br_kb ok br1 hk1) hm (.inr hk1) (fun q ho hq=>by
   rcases hq with hq | hq
   ·injection hq with e1 e2;subst e1;exact h3
   ·have:=hf q ho hq;omega) hdp (fun s' hs'=>hd s' (by simp[hs']))
  refine⟨Bb',fun y hy=>k1 y (.inr hy),fun y hy=>?_,.inr (k1 _ (.inl rfl)),k4,by omega,fun c e' hg=>?_⟩
  ·rcases k2 y hy with h | h
   ·rcases h with h | h
    ·exact .inr ⟨b,h,h4⟩
    ·exact .inl h
   ·exact .inr h
  ·exact .go Bb _ c [((x.x.toNat,p),id)] (x.y.toNat,p) id [] e' hnb (by rw[bV h1,mvI_2 h2];rfl) (fun z hz=>by
    simp at hz
    subst hz
    exact cf_dead ok br1 h5 (hd s (by simp))) (k6 c e' hg)
 | nested i s n y r b t u h1 h2 h3 h4 hnm hni hva hbt h5 h6 ih1 ih2 =>
  intro t' Ba Bb e br hm hb hf hdp hd
  have hnn:S.hd n≠n:=by rw[h4];exact fun e=>hnm e.symm
  have hnB:¬Ba (.B n p):=fun hh=>by have:=hdp n hva h4 hh;omega
  have hdn:¬HtA E l Ba (.B n p):=by
   obtain⟨k,hk⟩:=h1 p
   exact hd s (by simp) (.B n p,id) (by rw[frO_eq hk];simp)
  obtain⟨B1,k1,k2,k3,k4,k5,k6⟩:=ih1 t (ins Ba (.B n p)) Bb rfl (BR.inner br (by rw[h4];exact hm) hnn) (.inr hm) hb hf (fun n' hv' hh' hb'=>by
   rcases hb' with hb' | hb'
   ·injection hb' with e1;omega
   ·have:=hdp n' hv' hh' hb';omega) (fun s' hs' v hv hh=>hdn (Ht.of_last hnB (.inr ⟨v.1,v.2,by rw[mv_k5 h2 h3];exact List.mem_flatMap.2 ⟨s',hs',hv⟩,hh⟩)))
  have hb1:B1 (b,p):=by
   rcases k3 with h | h
   ·omega
   ·exact h
  have hkb1:B1 (S.kb m,p):=by
   rcases hb with hb | hb
   ·rw[←hb];exact hb1
   ·exact k1 _ hb
  have br1:BR S l is Ba (ins B1 (S.kb m,p)) noA 0:=BR.chain ok br hm (fun y hy=>by
   rcases hy with hy | hy
   ·exact .inl hy
   ·exact .inr (k1 y hy)) (fun y hy=>by
   rcases hy with hy | hy
   ·exact .inl (.inl hy)
   ·rcases k2 y hy with h | h
    ·exact .inl (.inr h)
    ·exact .inr h)
  obtain⟨B2,j1,j2,j3,j4,j5,j6⟩:=ih2 t' Ba B1 e br1 hm (.inr hkb1) k4 hdp (fun s' hs'=>hd s' (by simp[hs']))
  refine⟨B2,fun y hy=>j1 y (k1 y hy),fun y hy=>?_,.inr (j1 _ hb1),j4,by omega,fun c e' hg=>k6 c e' (j6 c e' hg)⟩
  rcases j2 y hy with h | h
  ·exact k2 y h
  ·exact .inr h
end
end Go.Proofs.Ytnkefclbchpafaa

/-
  The first walk through the row of nodes is the first walk through its program: the whole. Plain.
-/
namespace Go.Proofs.Ytnkefclbchpafaa
set_option linter.unusedVariables false
section
variable {S : Sm} {l : List PN} {is : List av} {E : Env} {text : List Int} {Ba : AS → Prop} {Bb : BC → Prop}
theorem ins_in {B:BC→Prop} {y:BC} (h:B y):ins B y=B:=by
 funext x
 simp only[ins,eq_iff_iff]
 exact⟨fun k=>by rcases k with k | k;rw[k];exact h;exact k,.inr⟩
theorem single {α:Type} {a b:α} {l1 l2:List α} (h:[a]=l1++b::l2):l1=[]∧b=a:=by
 cases l1 with
 | nil=>simp at h;exact⟨rfl,h.1.symm⟩
 | cons x l1=>simp at h
theorem walk (ok:kV S l is E text) {m p i:Nat} (hmv:S.va m) (hmh:S.hd m=m) (hmo:S.own (S.kb m)=some (.ch m)) {ms:List Nat} {b:Nat} {tt:Option Nat} (h:Ch S l is m i ms b tt) {r:AS} {f:CpF} {c:List Int} {e:BC × List Int} :
  ∀(Bb:BC→Prop) (l1 l2:List (AS × CpF)),BR S l is Ba (ins Bb (S.kb m,p)) noA 0→Ba (.B m p)→(b=S.kb m∨Bb (S.kb m,p))→Fresh S m p b Bb→Deep S Ba m p i→ms.flatMap (fun s=>frO l (.B s p))=l1++(r,f)::l2→(∀v∈l1,¬HtA E l Ba v.1)→HtA E l Ba r →
  (vz S r→¬nest S r→plc r=p→∀Bb',BR S l is Ba Bb' (fun y=>y=r) 0→GdP is text Bb' (pcA S r,p) (f c) e) →
  (∀n y,r=.B n p→f=id→S.va n→S.hd n=m→n≠m→l[n]?=some y→n < i→∀b' t Bb',Ch S l is m n y.subs b' (some t)→BR S l is Ba (ins Bb' (S.kb m,p)) noA 0→(b'=S.kb m∨Bb' (S.kb m,p))→Fresh S m p b' Bb'→GdP is text Bb' (b',p) c e) →
  GdP is text Bb (b,p) c e:=by
 induction h with
 | last i s b h1 =>
  intro Bb l1 l2 br hm hb hf hdp he hd hh hA hN
  obtain⟨z,f0,g,j,g1,-,g2,g3,g4,g5,g6⟩:=h1.at_ p
  have g1:frO l (.B s p)=[(z,f0)]:=g1
  simp only[List.flatMap_cons,List.flatMap_nil,List.append_nil,g1] at he
  obtain⟨rfl,e2⟩:=single he
  injection e2 with e2 e3
  subst e2 e3
  rcases hb with hb | hb
  ·exfalso
   subst hb
   have hq:pcA S r=S.kb m:=(g5.det (.nil (S.kb m) (by rw[hmo];simp))).1
   have:r=.B m p:=pc_inj ok g2 g3 (r:=.B m p) hmv (fun k=>k hmh) hq g4
   subst this
   exact hh.notB hm
  ·rw[ins_in hb] at br
   exact cf_gd ok br h1 (by rw[show fk (.B s) p=.B s p from rfl,g1];simp) hh hA
 | nil i t =>
  intro Bb l1 l2 br hm hb hf hdp he
  simp at he
 | plain i s r' b x t h1 h2 h3 h4 h5 h6 ihc =>
  intro Bb l1 l2 br hm hb hf hdp he hd hh hA hN
  have br1:=br_b ok br hm hb h4
  have hk1:ins Bb (b,p) (S.kb m,p):=by
   rcases hb with hb | hb
   ·rw[hb];exact .inl rfl
   ·exact .inr hb
  have hnb:¬Bb (b,p):=fun hx=>by have:=hf b h4 hx;omega
  obtain⟨z,f0,g,j,g1,-,g2,g3,g4,g5,g6⟩:=h5.at_ p
  have g1:frO l (.B s p)=[(z,f0)]:=g1
  simp only[List.flatMap_cons,g1,List.singleton_append] at he
  cases l1 with
  | nil =>
   simp only[List.nil_append,List.cons.injEq,Prod.mk.injEq] at he
   obtain⟨⟨rfl,rfl⟩,-⟩:=he
   exact .go Bb _ c [] (x.x.toNat,p) id [((x.y.toNat,p),id)] e hnb (by rw[bV h1,mvI_2 h2];rfl) (fun z hz=>by simp at hz) (cf_gd ok br1 h5 (by rw[show fk (.B s) p=.B s p from rfl,g1];simp) hh hA)
  | cons w l1 =>
   simp only[List.cons_append,List.cons.injEq] at he
   obtain⟨rfl,he⟩:=he
   refine .go Bb _ c [((x.x.toNat,p),id)] (x.y.toNat,p) id [] e hnb (by rw[bV h1,mvI_2 h2];rfl) (fun z' hz=>by
    simp at hz
    subst hz
    exact cf_dead ok br1 h5 (fun v hv=>by rw[show fk (.B s) p=.B s p from rfl,g1] at hv;simp at hv;subst hv;exact hd (z,f0) (by simp))) ?_
   exact ihc (ins Bb (b,p)) l1 l2 (br_kb ok br1 hk1) hm (.inr hk1) (fun q ho hq=>by
    rcases hq with hq | hq
    ·injection hq with e1 e2;subst e1;exact h3
    ·have:=hf q ho hq;omega) hdp he (fun v hv=>hd v (by simp[hv])) hh hA hN
 | nested i s n y r' b t u h1 h2 h3 h4 hnm hni hva hbt h5 h6 ih1 ih2 =>
  intro Bb l1 l2 br hm hb hf hdp he hd hh hA hN
  obtain⟨k,hk⟩:=h1 p
  have g1:=frO_eq hk
  simp only[List.flatMap_cons,g1,List.singleton_append] at he
  cases l1 with
  | nil =>
   simp only[List.nil_append,List.cons.injEq,Prod.mk.injEq] at he
   obtain⟨⟨rfl,rfl⟩,-⟩:=he
   exact hN n y rfl rfl hva h4 hnm h2 hni b t Bb h5 br hb hf
  | cons w l1 =>
   simp only[List.cons_append,List.cons.injEq] at he
   obtain⟨rfl,he⟩:=he
   have hnn:S.hd n≠n:=by rw[h4];exact fun e=>hnm e.symm
   have hnB:¬Ba (.B n p):=fun hx=>by have:=hdp n hva h4 hx;omega
   have hdn:¬HtA E l Ba (.B n p):=hd (.B n p,id) (by simp)
   obtain⟨B1,k1,k2,k3,k4,k5,k6⟩:=skip ok h5 t (ins Ba (.B n p)) Bb rfl (BR.inner br (by rw[h4];exact hm) hnn) (.inr hm) hb hf (fun n' hv' hh' hb'=>by
    rcases hb' with hb' | hb'
    ·injection hb' with e1;omega
    ·have:=hdp n' hv' hh' hb';omega) (fun s' hs' v hv hx=>hdn (Ht.of_last hnB (.inr ⟨v.1,v.2,by rw[mv_k5 h2 h3];exact List.mem_flatMap.2 ⟨s',hs',hv⟩,hx⟩)))
   have hb1:B1 (b,p):=by
    rcases k3 with h | h
    ·omega
    ·exact h
   have hkb1:B1 (S.kb m,p):=by
    rcases hb with hb | hb
    ·rw[←hb];exact hb1
    ·exact k1 _ hb
   have br1:BR S l is Ba (ins B1 (S.kb m,p)) noA 0:=BR.chain ok br hm (fun y hy=>by
    rcases hy with hy | hy
    ·exact .inl hy
    ·exact .inr (k1 y hy)) (fun y hy=>by
    rcases hy with hy | hy
    ·exact .inl (.inl hy)
    ·rcases k2 y hy with h | h
     ·exact .inl (.inr h)
     ·exact .inr h)
   exact k6 c e (ih2 B1 l1 l2 br1 hm (.inr hkb1) k4 hdp he (fun v hv=>hd v (by simp[hv])) hh hA hN)
theorem two (ok:kV S l is E text) {n p q:Nat} {x:PN} (h:Lp S l is n x q) (hq:¬Bb (q,p)) (br:BR S l is Ba (ins Bb (q,p)) noA 0) {l1:List (AS × CpF)} {r:AS} {f:CpF} {l2:List (AS × CpF)} {c:List Int} {e:BC × List Int} (he:chA l n p x=l1++(r,f)::l2) (hd:∀v∈l1,¬HtA E l Ba v.1) (hh:HtA E l Ba r)
  (hA:vz S r→¬nest S r→plc r=p→∀Bb',BR S l is Ba Bb' (fun y=>y=r) 0→GdP is text Bb' (pcA S r,p) (f c) e):GdP is text Bb (q,p) c e:=by
 obtain⟨y,h1,h2,h3,h4⟩:=h
 have key:∀ {k1 k2:FK0} {b1 b2:Nat},CF S l is k1 b1→CF S l is k2 b2→frO l (fk k1 p)++frO l (fk k2 p)=l1++(r,f)::l2→mvs is text (q,p)=[((b1,p),id),((b2,p),id)]→GdP is text Bb (q,p) c e:=by
  intro k1 k2 b1 b2 c1 c2 he2 hmv
  clear he
  obtain⟨z,f0,g,j,g1,-⟩:=c1.at_ p
  rw[g1] at he2
  cases l1 with
  | nil =>
   simp only[List.cons_append,List.nil_append,List.cons.injEq,Prod.mk.injEq] at he2
   obtain⟨⟨rfl,rfl⟩,-⟩:=he2
   exact .go Bb _ c [] (b1,p) id [((b2,p),id)] e hq (by rw[hmv];rfl) (fun z hz=>by simp at hz) (cf_gd ok br c1 (by rw[g1];simp) hh hA)
  | cons w l1 =>
   simp only[List.cons_append,List.nil_append,List.cons.injEq] at he2
   obtain⟨rfl,he2⟩:=he2
   refine .go Bb _ c [((b1,p),id)] (b2,p) id [] e hq (by rw[hmv];rfl) (fun z' hz=>by
    simp at hz
    subst hz
    exact cf_dead ok br c1 (fun v hv=>by rw[g1] at hv;simp at hv;subst hv;exact hd (z,f0) (by simp))) (cf_gd ok br c2 (by rw[he2];simp) hh hA)
 unfold chA at he
 by_cases hz:x.lz=true
 ·rw[if_pos hz] at he h3 h4
  exact key h4 h3 he (by rw[bV h1,mvI_2 h2])
 ·rw[if_neg hz] at he h3 h4
  exact key h3 h4 he (by rw[bV h1,mvI_2 h2])
theorem sim (ok:kV S l is E text) {z:AS} {c:List Int} {e:AS × List Int} (h:GdA E l Ba z c e):vz S z →
  (¬nest S z→∀Bb,BR S l is Ba Bb (fun y=>y=z) 0→GdP is text Bb (pcA S z,plc z) c (eB S e)) ∧
  (∀n p y m,z=.B n p→l[n]?=some y→S.hd n=m→n≠m→S.va m→S.hd m=m→S.own (S.kb m)=some (.ch m)→Ba (.B m p)→Deep S Ba m p n→∀b t Bb,Ch S l is m n y.subs b (some t)→BR S l is Ba (ins Bb (S.kb m,p)) noA 0→(b=S.kb m∨Bb (S.kb m,p))→Fresh S m p b Bb→GdP is text Bb (b,p) c (eB S e)):=by
 induction h with
 | fin Ba z c h1 h2 =>
  intro v
  cases z with
  | B n p=>exact h2.elim
  | D n p=>exact h2.elim
  | E p =>
   refine⟨fun _ Bb br=>?_,fun n p y m e=>by cases e⟩
   obtain⟨x,g1,g2,g3,g4⟩:=ok.e1
   obtain⟨y,g5,g6⟩:=ok.e2
   refine .go Bb _ c [] (S.pe+1,p) (jy x.arg p) [] _ (br.noP p).1 (by show mvs is text (S.pe,p)=_;rw[bV g1,mvI_3 g2,g4];rfl) (fun z hz=>by simp at hz) ?_
   rw[g3]
   exact .fin _ _ _ (fun hb=>by
    rcases hb with hb | hb
    ·have hb:(S.pe+1,p)=(S.pe,p):=hb
     injection hb with e1 e2;omega
    ·exact(br.noP p).2 hb) ⟨y,g5,g6⟩
 | go Ba z c l1 r f l2 e h1 h2 h3 h4 ih =>
  intro v
  have hh:=h4.hit
  have hA:∀p,(vz S r→¬nest S r→plc r=p→∀Bb',BR S l is (ins Ba z) Bb' (fun y=>y=r) 0→GdP is text Bb' (pcA S r,p) (f c) (eB S e)):=fun p v' nn' hp Bb' br'=>by
   subst hp
   exact(ih v').1 nn' Bb' br'
  cases z with
  | E p=>simp[mvA] at h2
  | D n p =>
   refine⟨fun nn Bb br=>?_,fun n p y m e=>by cases e⟩
   obtain⟨x,hx⟩:=ok.vdl n v
   obtain⟨g1,g2⟩:=ok.kl n x v hx
   have br1:=BR.core ok br v nn (fun p e=>by cases e)
   rw[mv_D hx] at h2
   exact two ok g2 (fun hb=>h1 (br.ofD _ n p g1 hb)) br1 h2 h3 hh (hA p)
  | B n p =>
   obtain⟨x,hx⟩:=ok.vl n v
   rcases ok.kn n x v hx with hk | hk | hk | hk
   ·obtain⟨g1,g2,y,g3,g4⟩:=ok.k2 n x v hx hk
    refine⟨fun nn Bb br=>?_,fun n' p' y' m e hy e2 e3=>by injection e with e1;subst e1;rw[g2] at e2;exact absurd e2 e3⟩
    have br1:=BR.core ok br v nn (fun p e=>by cases e)
    rw[mv_k2 hx hk,ok.cls] at h2
    split at h2
    ·rename_i hf
     rcases g4 with⟨g4,g5,g6⟩ | ⟨g4,g5⟩
     ·obtain⟨z,f0,g,j,k1,-⟩:=g6.at_ (p+1)
      have k1:frO l (.H n (p+1))=[(z,f0)]:=k1
      rw[k1] at h2
      obtain⟨rfl,e2⟩:=single h2
      injection e2 with e2 e3
      subst e2 e3
      refine .go Bb _ c [] (y.x.toNat,p+1) id [] _ (fun hb=>h1 (br.ofB _ n p g1 hb)) ?_ (fun z hz=>by simp at hz) (cf_gd ok br1 (k:=.H n) g6 (by rw[show fk (.H n) (p+1)=.H n (p+1) from rfl,k1];simp) hh (hA (p+1)))
      show mvs is text (S.kb n,p)=_
      rw[bV g3,mvI_1 g4,g5,if_pos hf]
      rfl
     ·rw[g5] at hf
      unfold dI at hf
      split at hf
      ·cases hf
      ·simp[hasB,inB] at hf
    ·simp at h2
   ·obtain⟨g1,g2,y,g3,g4,g5,g6⟩:=ok.k3 n x v hx hk
    refine⟨fun nn Bb br=>?_,fun n' p' y' m e hy e2 e3=>by injection e with e1;subst e1;rw[g2] at e2;exact absurd e2 e3⟩
    have br1:=BR.core ok br v nn (fun p e=>by cases e)
    rw[mv_k3 hx hk,ok.asr] at h2
    split at h2
    ·rename_i hf
     obtain⟨z,f0,g,j,k1,-⟩:=g6.at_ p
     have k1:frO l (.H n p)=[(z,f0)]:=k1
     rw[k1] at h2
     obtain⟨rfl,e2⟩:=single h2
     injection e2 with e2 e3
     subst e2 e3
     refine .go Bb _ c [] (y.x.toNat,p) id [] _ (fun hb=>h1 (br.ofB _ n p g1 hb)) ?_ (fun z hz=>by simp at hz) (cf_gd ok br1 (k:=.H n) g6 (by rw[show fk (.H n) p=.H n p from rfl,k1];simp) hh (hA p))
     show mvs is text (S.kb n,p)=_
     rw[bV g3,mvI_4 g4,g5,if_pos hf]
     rfl
    ·simp at h2
   ·rw[mv_k5 hx hk] at h2
    have hN:∀m,S.va m→S.hd m=m→S.own (S.kb m)=some (.ch m)→ins Ba (.B n p) (.B m p)→Deep S (ins Ba (.B n p)) m p n→∀n2 y2,r=.B n2 p→f=id→S.va n2→S.hd n2=m→n2≠m→l[n2]?=some y2→n2 < n→∀b' t Bb',Ch S l is m n2 y2.subs b' (some t)→BR S l is (ins Ba (.B n p)) (ins Bb' (S.kb m,p)) noA 0→(b'=S.kb m∨Bb' (S.kb m,p))→Fresh S m p b' Bb'→GdP is text Bb' (b',p) c (eB S e):=by
     intro m w1 w2 w3 w4 wd n2 y2 e1 e2 w5 w6 w7 w8 w9 b' t Bb' hc br hb hf
     subst e1 e2
     exact(ih w5).2 n2 p y2 m rfl w8 w6 w7 w1 w2 w3 w4 (fun n' a1 a2 a3=>by have:=wd n' a1 a2 a3;omega) b' t Bb' hc br hb hf
    refine⟨fun nn Bb br=>?_,fun n' p' y' m e hy e2 e3 w1 w2 w3 w4 wd b t Bb hc br hb hf=>?_⟩
    ·have e0:S.hd n=n:=Classical.byContradiction nn
     obtain⟨g1,g2,g3⟩:=ok.k5 n x v hx hk e0
     have br1:=BR.core ok br v nn (fun p e=>by cases e)
     have hdp:Deep S (ins Ba (.B n p)) n p n:=fun n' a1 a2 a3=>by
      rcases a3 with a3 | a3
      ·injection a3 with a3;omega
      ·exfalso
       have:=br.hd n' p a3 a1
       rw[a2] at this
       exact h1 this
     refine walk ok v e0 g1 g2 Bb l1 l2 br1 (.inl rfl) (.inl rfl) (fun q ho hq=>absurd (br.ofC q n p ho hq) h1) hdp h2 h3 hh (hA p) (fun n2 y2 e1 e2' a1 a2 a3 a4 a5=>?_)
     exact hN n v e0 g1 (.inl rfl) hdp n2 y2 e1 e2' a1 a2 a3 a4 a5
    ·injection e with e1 e4
     subst e1 e4
     rw[hx] at hy
     injection hy with hy
     subst hy
     have hnn:S.hd n≠n:=by rw[e2];exact fun k=>e3 k.symm
     have br1:=BR.inner br (by rw[e2];exact w4) hnn
     have hdp:Deep S (ins Ba (.B n p)) m p n:=fun n' a1 a2 a3=>by
      rcases a3 with a3 | a3
      ·injection a3 with a3;omega
      ·exact wd n' a1 a2 a3
     refine walk ok w1 w2 w3 hc Bb l1 l2 br1 (.inr w4) hb hf hdp h2 h3 hh (hA p) (fun n2 y2 e1 e2' a1 a2 a3 a4 a5=>?_)
     exact hN m w1 w2 w3 (.inr w4) hdp n2 y2 e1 e2' a1 a2 a3 a4 a5
   ·obtain⟨g1,g2,g3⟩:=ok.kq n x v hx hk
    refine⟨fun nn Bb br=>?_,fun n' p' y' m e hy e2 e3=>by injection e with e1;subst e1;rw[g2] at e2;exact absurd e2 e3⟩
    have br1:=BR.core ok br v nn (fun p e=>by cases e)
    rw[mv_kq hx hk] at h2
    exact two ok g3 (fun hb=>h1 (br.ofB _ n p g1 hb)) br1 h2 h3 hh (hA p)
end
end Go.Proofs.Ytnkefclbchpafaa

/-
  A row of nodes laid into a program's instructions, node by node. Plain.
-/
namespace Go.Proofs.Ytnkefclbchpafaa
set_option linter.unusedVariables false
mutual
def kE:UT→Bool
 | .eps=>true
 | .cat us=>epsBL us
 | _=>false
def epsBL:List UT→Bool
 | []=>true
 | u::us=>kE u && epsBL us
end
theorem epsBL_iff:∀(us:List UT),epsBL us=true↔∀u∈us,kE u=true
 | []=>by simp[epsBL]
 | u::us=>by
  rw[epsBL,Bool.and_eq_true,epsBL_iff us]
  simp
inductive Ld (l:List PN):UT→Nat→Nat→List UT→Prop
 | here (us:List UT) (s:Nat):Ld l (.alt us) s s us
 | cat (us:List UT) (s:Nat) (x:PN) (k:Nat) (u:UT) (v n:Nat) (ws:List UT):l[s]?=some x→us[k]?=some u→x.subs[k]?=some v→(∀(j:Nat) w,j≠k→us[j]?=some w→kE w=true)→Ld l u v n ws→Ld l (.cat us) s n ws
section
variable (S : Sm) (l : List PN) (is : List av)
mutual
inductive Pl:UT→Nat→Nat→Nat→Prop
 | eps (n b:Nat):Pl .eps n b b
 | cls (n b:Nat) (rs:List (Int × Int)) (y:av):S.own b=some (.nB n)→S.kb n=b→S.hd n=n→is[b]?=some y→(y.op=1∧y.rs=rs∧y.x.toNat=b+1)∨(y.op=6∧rs=[])→Pl (.cls rs) n b (b+1)
 | asr (n b:Nat) (a:Int) (y:av):S.own b=some (.nB n)→S.kb n=b→S.hd n=n→is[b]?=some y→y.op=4→y.arg=a→y.x.toNat=b+1→Pl (.asr a) n b (b+1)
 | cat (n b e:Nat) (us:List UT) (x:PN):l[n]?=some x→PlC us x.subs b e→Pl (.cat us) n b e
 | alt (n b e:Nat) (us:List UT) (x:PN):l[n]?=some x→S.own b=some (.ch n)→S.kb n=b→S.hd n=n→2≤us.length→PlA n n us x.subs b e→Pl (.alt us) n b e
 | grp (n b m:Nat) (ix:Int) (u:UT) (x:PN) (y z:av):l[n]?=some x→S.own b=none→is[b]?=some y→y.op=3→y.arg=2*ix→y.x.toNat=b+1→Pl u (aR x) (b+1) m→S.own m=none→is[m]?=some z→z.op=3→z.arg=2*ix+1→z.x.toNat=m+1→Pl (.grp ix u) n b (m+1)
 | star (n b m:Nat) (u:UT) (lz:Bool) (x:PN) (y z:av):l[n]?=some x→S.own b=some (.nD n)→S.kd n=b→is[b]?=some y→y.op=2→(if lz=true then y.y.toNat else y.x.toNat)=b+1→(if lz=true then y.x.toNat else y.y.toNat)=m+1→Pl u (aR x) (b+1) m→S.own m=none→is[m]?=some z→z.op=7→z.x.toNat=b→Pl (.star u lz) n b (m+1)
 | plus (n b m:Nat) (u:UT) (lz:Bool) (x:PN) (y:av):l[n]?=some x→Pl u (aR x) b m→S.own m=some (.nD n)→S.kd n=m→is[m]?=some y→y.op=2→(if lz=true then y.y.toNat else y.x.toNat)=b→(if lz=true then y.x.toNat else y.y.toNat)=m+1→Pl (.plus u lz) n b (m+1)
 | quest (n b e:Nat) (u:UT) (lz:Bool) (x:PN) (y:av):l[n]?=some x→S.own b=some (.nB n)→S.kb n=b→S.hd n=n→is[b]?=some y→y.op=2→(if lz=true then y.y.toNat else y.x.toNat)=b+1→(if lz=true then y.x.toNat else y.y.toNat)=e→Pl u (aR x) (b+1) e→Pl (.quest u lz) n b e
inductive PlC:List UT→List Nat→Nat→Nat→Prop
 | nil (b:Nat):PlC [] [] b b
 | cons (u:UT) (us:List UT) (s:Nat) (ss:List Nat) (b m e:Nat):Pl u s b m→PlC us ss m e→PlC (u::us) (s::ss) b e
inductive PlA:Nat→Nat→List UT→List Nat→Nat→Nat→Prop
 | last (m i:Nat) (u:UT) (s b e:Nat):Pl u s b e→PlA m i [u] [s] b e
 | cons (m i:Nat) (u:UT) (us:List UT) (s:Nat) (ss:List Nat) (b t e:Nat):PlO m i u s b t e→PlA m i us ss t e→PlA m i (u::us) (s::ss) b e
inductive PlO:Nat→Nat→UT→Nat→Nat→Nat→Nat→Prop
 | plain (m i:Nat) (u:UT) (s b q e:Nat) (y z:av):b≤q→S.own b=some (.ch m)→is[b]?=some y→y.op=2→y.x.toNat=b+1→y.y.toNat=q+1→Pl u s (b+1) q→S.own q=none→is[q]?=some z→z.op=7→z.x.toNat=e→PlO m i u s b (q+1) e
 | nested (m i:Nat) (u:UT) (s n:Nat) (us:List UT) (x:PN) (b t e:Nat):Ld l u s n us→l[n]?=some x→S.hd n=m→n≠m→n < i→b < t→PlOs m n us x.subs b t e→PlO m i u s b t e
inductive PlOs:Nat→Nat→List UT→List Nat→Nat→Nat→Nat→Prop
 | nil (m i b e:Nat):PlOs m i [] [] b b e
 | cons (m i:Nat) (u:UT) (us:List UT) (s:Nat) (ss:List Nat) (b t t' e:Nat):PlO m i u s b t e→PlOs m i us ss t t' e→PlOs m i (u::us) (s::ss) b t' e
end
inductive Des:Nat→Nat→Prop
 | here (n:Nat):Des n n
 | sub (n:Nat) (x:PN) (s i:Nat):l[n]?=some x→3 < x.kind→s∈x.subs→Des s i→Des n i
end
theorem Des.trans {l:List PN} {a b c:Nat} (h:Des l a b) (g:Des l b c):Des l a c:=by
 induction h with
 | here=>exact g
 | sub n x s i h1 h0 h2 _ ih=>exact .sub n x s c h1 h0 h2 (ih g)
section
variable {S : Sm} {l : List PN} {is : List av}
theorem fr_to {k k':FK} (hk:∀h,frF l (h+1) k=(frF l h k').map id) {v:AS × CpF} {h:Nat} (a:FR l k' v h):FR l k v (h+1):=(FR.step hk).2 ⟨v,rfl,a⟩
theorem jf {k k':FK0} {b:Nat} (hk:∀p h,frF l (h+1) (fk k p)=(frF l h (fk k' p)).map id) (h:CF S l is k' b):CF S l is k b:=fun p=>by
 obtain⟨z,f,hh,g,j,h1,h2⟩:=h p
 exact⟨z,f,hh+1,g,j,fr_to (hk p) h1,h2⟩
theorem cf_nop {k:FK0} {b e:Nat} {z:av} (ho:S.own b=none) (hz:is[b]?=some z) (h7:z.op=7) (hx:z.x.toNat=e) (h:CF S l is k e):CF S l is k b:=fun p=>by
 obtain⟨r,f,hh,g,j,h1,h2,h3,h4,h5,h6⟩:=h p
 exact⟨r,f,hh,g,j+1,h1,h2,h3,h4,.nop b z _ g j ho hz h7 (by rw[hx];exact h5),h6⟩
theorem cf_cap {k k':FK0} {b e:Nat} {z:av} {a:Int} (hk:∀p h,frF l (h+1) (fk k p)=(frF l h (fk k' p)).map (fun v=>(v.1,v.2 ∘ jy a p))) (ho:S.own b=none) (hz:is[b]?=some z) (h3:z.op=3) (ha:z.arg=a) (hx:z.x.toNat=e) (h:CF S l is k' e):CF S l is k b:=fun p=>by
 obtain⟨r,f,hh,g,j,h1,h2,h3',h4,h5,h6⟩:=h p
 refine⟨r,f ∘ jy a p,hh+1,fun p=>g p ∘ jy z.arg p,j+1,(FR.step (hk p)).2 ⟨(r,f),rfl,h1⟩,h2,h3',h4,.cap b z _ g j ho hz h3 (by rw[hx];exact h5),?_⟩
 show g p ∘ jy z.arg p=f ∘ jy a p
 rw[h6,ha]
theorem jO {us:List UT} {m:Nat} {y:PN} (hr:dW l us m 0 y.subs) {j s:Nat} (hs:y.subs[j]?=some s):∃u x,us[j]?=some u∧Rep l u s∧l[s]?=some x∧x.up=(m:Int)∧x.nth.toNat=j:=by
 obtain⟨u,x,e1,e2,e3,e4,e5,e6⟩:=hr.at_ j s hs
 exact⟨u,x,e1,e2,e3,e4,by omega⟩
theorem dW.len {l:List PN}:∀ {us:List UT} {m k:Nat} {ss:List Nat},dW l us m k ss→us.length=ss.length
 | [],_,_,_,h=>by rw[h.none];rfl
 | u::us,m,k,ss,h=>by
  cases h with
  | cons _ _ _ _ s ss' x h1 h2 h3 h4 h5=>simp[dW.len h5]
theorem suffix {us:List UT} {m p:Nat} {y:PN} (hm:l[m]?=some y) (h4:y.kind=4) (hr:dW l us m 0 y.subs) {v:AS × CpF} {h:Nat} (hv:FR l (.H m p) v h):∀(d j s:Nat),j+1+d=y.subs.length→y.subs[j]?=some s →
  (∀(i s':Nat),j < i→y.subs[i]?=some s'→∀h,FR l (.H s' p) v h→∃h',FR l (.B s' p) v h')→∃h',FR l (.H s p) v h'
 | 0,j,s,hj,hs,_=>by
  obtain⟨u,x,e1,e2,e3,e4,e5⟩:=jO hr hs
  exact⟨h+1,fr_to (st_h4e e3 e4 hm h4 (by omega)) hv⟩
 | d+1,j,s,hj,hs,hp=>by
  obtain⟨u,x,e1,e2,e3,e4,e5⟩:=jO hr hs
  have hlt:j+1 < y.subs.length:=by omega
  have hs1:y.subs[j+1]?=some (y.subs.getD (j+1) 0):=by simp[List.getD_eq_getElem?_getD,List.getElem?_eq_getElem hlt]
  obtain⟨h1,g1⟩:=suffix hm h4 hr hv d (j+1) _ (by omega) hs1 (fun i s' hi=>hp i s' (by omega))
  obtain⟨h2,g2⟩:=hp (j+1) _ (by omega) hs1 h1 g1
  exact⟨h2+1,fr_to (st_h4 e3 e4 hm h4 (by rw[e5];exact hlt)) (by rw[e5];exact g2)⟩
theorem ahead_ {us:List UT} {m p k v0:Nat} {y:PN} (hm:l[m]?=some y) (h4:y.kind=4) (hr:dW l us m 0 y.subs) (hk:y.subs[k]?=some v0) {v:AS × CpF} {h:Nat} (hv:FR l (.B v0 p) v h):∀(d j s:Nat),j+d=k→y.subs[j]?=some s →
  (∀(i s':Nat),i < k→y.subs[i]?=some s'→∀h,FR l (.H s' p) v h→∃h',FR l (.B s' p) v h')→∃h',FR l (.B s p) v h'
 | 0,j,s,hj,hs,_=>by
  obtain rfl:j=k:=by omega
  rw[hk] at hs
  injection hs with hs
  subst hs
  exact⟨h,hv⟩
 | d+1,j,s,hj,hs,hp=>by
  obtain⟨u,x,e1,e2,e3,e4,e5⟩:=jO hr hs
  have hlt:j+1 < y.subs.length:=by
   have:=(List.getElem?_eq_some_iff.1 hk).1
   omega
  have hs1:y.subs[j+1]?=some (y.subs.getD (j+1) 0):=by simp[List.getD_eq_getElem?_getD,List.getElem?_eq_getElem hlt]
  obtain⟨h1,g1⟩:=ahead_ hm h4 hr hk hv d (j+1) _ (by omega) hs1 hp
  exact hp j s (by omega) hs _ (fr_to (st_h4 e3 e4 hm h4 (by rw[e5];exact hlt)) (by rw[e5];exact g1))
theorem mem_size {us:List UT} {u:UT} (h:u∈us):SizeOf.sizeOf u < SizeOf.sizeOf (UT.cat us):=by
 have:=List.sizeOf_lt_of_mem h
 simp
 omega
theorem eps_pass (p:Nat):∀(N:Nat) (u:UT) (n:Nat),SizeOf.sizeOf u≤N→Rep l u n→kE u=true→∀v h,FR l (.H n p) v h→∃h',FR l (.B n p) v h'
 | 0,u,n,hN,_,_,_,_,_=>by cases u <;> simp at hN
 | N+1,u,n,hN,hr,he,v,h,hv=>by
  cases hr with
  | eps _ x h1 h2=>exact⟨h+1,fr_to (st_1 h1 h2) hv⟩
  | cat _ x us h1 h2 h0 h3 =>
   rw[kE,epsBL_iff] at he
   obtain⟨s0,r,e0⟩:=List.exists_cons_of_ne_nil h0
   have hs0:x.subs[0]?=some s0:=by rw[e0];rfl
   have pass:∀(i s':Nat),x.subs[i]?=some s'→∀h,FR l (.H s' p) v h→∃h',FR l (.B s' p) v h':=fun i s' hs' h hh=>by
    obtain⟨w,x',e1,e2,-⟩:=jO h3 hs'
    have hw:=List.mem_of_getElem? e1
    exact eps_pass p N w s' (by have:=mem_size hw;omega) e2 (he w hw) v h hh
   obtain⟨h1',g1⟩:=suffix h1 h2 h3 hv (x.subs.length - 1) 0 s0 (by rw[e0];simp;omega) hs0 (fun i s' _=>pass i s')
   obtain⟨h2',g2⟩:=pass 0 s0 hs0 h1' g1
   have es:aR x=s0:=by simp[aR,e0]
   exact⟨h2'+1,fr_to (st_4 h1 (.inl h2)) (by rw[es];exact g2)⟩
  | cls | asr | alt | grp | star | plus | quest=>simp[kE] at he
theorem eps_des:∀(N:Nat) (u:UT) (n:Nat),SizeOf.sizeOf u≤N→Rep l u n→kE u=true→∀i,Des l n i→∃x,l[i]?=some x∧(x.kind=1∨x.kind=4)
 | 0,u,n,hN,_,_,_,_=>by cases u <;> simp at hN
 | N+1,u,n,hN,hr,he,i,hi=>by
  cases hr with
  | eps _ x h1 h2 =>
   cases hi with
   | here=>exact⟨x,h1,.inl h2⟩
   | sub _ x' s _ g1 g0 g2 g3 =>
    rw[h1] at g1
    injection g1 with g1
    subst g1
    omega
  | cat _ x us h1 h2 h0 h3 =>
   cases hi with
   | here=>exact⟨x,h1,.inr h2⟩
   | sub _ x' s _ g1 g0 g2 g3 =>
    rw[h1] at g1
    injection g1 with g1
    subst g1
    rw[kE,epsBL_iff] at he
    obtain⟨j,hj⟩:=List.mem_iff_getElem?.1 g2
    obtain⟨w,x',e1,e2,-⟩:=jO h3 hj
    have hw:=List.mem_of_getElem? e1
    exact eps_des N w s (by have:=mem_size hw;omega) e2 (he w hw) i g3
  | cls | asr | alt | grp | star | plus | quest=>simp[kE] at he
end
end Go.Proofs.Ytnkefclbchpafaa
