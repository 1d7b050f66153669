/-
  SimG, SimH, SimB, put together.
-/
import Derived.Test.YtnkefclbchpafaaZ09VisR
import Derived.Test.YtnkefclbchpafaaZ10Greed

/-
  A row of nodes and a program's instructions that stand for it: how the one's cores lie in the other. What can be come to in both. Plain.
-/
namespace Go.Proofs.Ytnkefclbchpafaa
set_option linter.unusedVariables false
inductive OT where
 | nB (n:Nat) | nD (n:Nat) | ch (m:Nat) | en
structure Sm where
 kb:Nat→Nat
 kd:Nat→Nat
 hd:Nat→Nat
 own:Nat→Option OT
 pe:Nat
 va:Nat→Prop
 vd:Nat→Prop
inductive FK0 where
 | B (n:Nat) | H (n:Nat)
def fk:FK0→Nat→FK
 | .B n,p=>.B n p
 | .H n,p=>.H n p
def plc:AS→Nat
 | .B _ p=>p
 | .D _ p=>p
 | .E p=>p
section
variable (S : Sm) (l : List PN) (is : List av)
def pcA:AS→Nat
 | .B n _=>S.kb n
 | .D n _=>S.kd n
 | .E _=>S.pe
def vz:AS→Prop
 | .B n _=>S.va n
 | .D n _=>S.vd n
 | .E _=>True
def nest:AS→Prop
 | .B n _=>S.hd n≠n
 | _=>False
inductive Rt:Nat→Nat→(Nat→CpF)→Nat→Prop
 | nil (q:Nat):S.own q≠none→Rt q q (fun _=>id) 0
 | nop (b:Nat) (x:av) (q:Nat) (g:Nat→CpF) (k:Nat):S.own b=none→is[b]?=some x→x.op=7→Rt x.x.toNat q g k→Rt b q g (k+1)
 | cap (b:Nat) (x:av) (q:Nat) (g:Nat→CpF) (k:Nat):S.own b=none→is[b]?=some x→x.op=3→Rt x.x.toNat q g k→Rt b q (fun p=>g p ∘ jy x.arg p) (k+1)
def CF (k:FK0) (b:Nat):Prop:=∀p,∃z f h g j,FR l (fk k p) (z,f) h∧vz S z∧¬nest S z∧plc z=p∧Rt S is b (pcA S z) g j∧g p=f
inductive Ch (m:Nat):Nat→List Nat→Nat→Option Nat→Prop
 | last (i:Nat) (s:Nat) (b:Nat):CF S l is (.B s) b→Ch m i [s] b none
 | nil (i:Nat) (t:Nat):Ch m i [] t (some t)
 | plain (i:Nat) (s:Nat) (r:List Nat) (b:Nat) (x:av) (t:Option Nat):is[b]?=some x→x.op=2→b < x.y.toNat→S.own b=some (.ch m)→CF S l is (.B s) x.x.toNat→Ch m i r x.y.toNat t→Ch m i (s::r) b t
 | nested (i:Nat) (s n:Nat) (y:PN) (r:List Nat) (b t:Nat) (u:Option Nat):(∀p,∃h,FR l (.B s p) (.B n p,id) h)→l[n]?=some y→y.kind=5→S.hd n=m→n≠m→n < i→S.va n→b < t→Ch m n y.subs b (some t)→Ch m i r t u→Ch m i (s::r) b u
def Lp (n:Nat) (x:PN) (q:Nat):Prop:=∃y:av,is[q]?=some y∧y.op=2∧CF S l is (.B (aR x)) (if x.lz=true then y.y.toNat else y.x.toNat)∧CF S l is (.H n) (if x.lz=true then y.x.toNat else y.y.toNat)
structure kV (E:Env) (text:List Int):Prop where
 cls:∀rs p,E.cls rs p=dI rs text p
 asr:∀a p,E.asr a p=cZ a (part text p 6)
 oB:∀q n,S.own q=some (.nB n)→q=S.kb n
 oD:∀q n,S.own q=some (.nD n)→q=S.kd n
 oE:∀q,S.own q=some .en→q=S.pe
 e0:S.own S.pe=some .en
 e1:∃x,is[S.pe]?=some x∧x.op=3∧x.arg=1∧x.x.toNat=S.pe+1
 e2:∃x,is[S.pe+1]?=some x∧x.op=5
 e3:S.own (S.pe+1)=none
 k2:∀n x,S.va n→l[n]?=some x→x.kind=2→S.own (S.kb n)=some (.nB n)∧S.hd n=n∧∃y:av,is[S.kb n]?=some y∧((y.op=1∧y.rs=x.rs∧CF S l is (.H n) y.x.toNat)∨(y.op=6∧x.rs=[]))
 k3:∀n x,S.va n→l[n]?=some x→x.kind=3→S.own (S.kb n)=some (.nB n)∧S.hd n=n∧∃y:av,is[S.kb n]?=some y∧y.op=4∧y.arg=x.asr∧CF S l is (.H n) y.x.toNat
 kq:∀n x,S.va n→l[n]?=some x→x.kind=103→S.own (S.kb n)=some (.nB n)∧S.hd n=n∧Lp S l is n x (S.kb n)
 kl:∀n x,S.vd n→l[n]?=some x→S.own (S.kd n)=some (.nD n)∧Lp S l is n x (S.kd n)
 k5:∀n x,S.va n→l[n]?=some x→x.kind=5→S.hd n=n→S.own (S.kb n)=some (.ch n)∧Ch S l is n n x.subs (S.kb n) none∧2≤x.subs.length
 kn:∀n x,S.va n→l[n]?=some x→x.kind=2∨x.kind=3∨x.kind=5∨x.kind=103
 vl:∀n,S.va n→∃x,l[n]?=some x
 vdl:∀n,S.vd n→∃x,l[n]?=some x
end
section
variable {S : Sm} {l : List PN} {is : List av} {E : Env} {text : List Int}
theorem Rt.own {b q:Nat} {g:Nat→CpF} {k:Nat} (h:Rt S is b q g k):S.own q≠none:=by
 induction h with
 | nil q h=>exact h
 | nop _ _ _ _ _ _ _ _ _ ih=>exact ih
 | cap _ _ _ _ _ _ _ _ _ ih=>exact ih
theorem Rt.det {b q:Nat} {g:Nat→CpF} {k:Nat} (h:Rt S is b q g k):∀ {q':Nat} {g':Nat→CpF} {k':Nat},Rt S is b q' g' k'→q=q'∧k=k':=by
 induction h with
 | nil q h =>
  intro q' g' k' h'
  cases h' with
  | nil=>exact⟨rfl,rfl⟩
  | nop _ _ _ _ _ h1=>exact absurd h1 h
  | cap _ _ _ _ _ h1=>exact absurd h1 h
 | nop b x q g k h1 h2 h3 _ ih =>
  intro q' g' k' h'
  cases h' with
  | nil _ h=>exact absurd h1 h
  | nop _ y _ _ _ k1 k2 k3 k4 =>
   rw[h2] at k2
   injection k2 with k2
   subst k2
   obtain⟨e1,e2⟩:=ih k4
   exact⟨e1,by omega⟩
  | cap _ y _ _ _ k1 k2 k3 k4 =>
   rw[h2] at k2
   injection k2 with k2
   subst k2
   omega
 | cap b x q g k h1 h2 h3 _ ih =>
  intro q' g' k' h'
  cases h' with
  | nil _ h=>exact absurd h1 h
  | nop _ y _ _ _ k1 k2 k3 k4 =>
   rw[h2] at k2
   injection k2 with k2
   subst k2
   omega
  | cap _ y _ _ _ k1 k2 k3 k4 =>
   rw[h2] at k2
   injection k2 with k2
   subst k2
   obtain⟨e1,e2⟩:=ih k4
   exact⟨e1,by omega⟩
structure BR (S:Sm) (l:List PN) (is:List av) (Ba:AS→Prop) (Bb:BC→Prop) (cur:AS→Prop) (k:Nat):Prop where
 toB:∀z,Ba z→vz S z→¬nest S z→Bb (pcA S z,plc z)
 ofB:∀q n p,S.own q=some (.nB n)→Bb (q,p)→Ba (.B n p)
 ofD:∀q n p,S.own q=some (.nD n)→Bb (q,p)→Ba (.D n p)
 ofC:∀q m p,S.own q=some (.ch m)→Bb (q,p)→Ba (.B m p)
 ofN:∀q p q' g k',S.own q=none→Bb (q,p)→Rt S is q q' g k'→∀z,vz S z→¬nest S z→plc z=p→pcA S z=q'→Ba z∨(cur z∧k < k')
 hd:∀n p,Ba (.B n p)→S.va n→Ba (.B (S.hd n) p)
 noE:∀p,¬Ba (.E p)
 noP:∀p,¬Bb (S.pe,p)∧¬Bb (S.pe+1,p)
def noA:AS→Prop:=fun _=>False
end
end Go.Proofs.Ytnkefclbchpafaa

/-
  What can be come to in the row of nodes can be come to in its program, and the other way round. Plain.
-/
namespace Go.Proofs.Ytnkefclbchpafaa
set_option linter.unusedVariables false
section
variable {S : Sm} {l : List PN} {is : List av} {E : Env} {text : List Int} {Ba : AS → Prop} {Bb : BC → Prop}
theorem CF.at_ {k:FK0} {b:Nat} (h:CF S l is k b) (p:Nat):∃z f g j,frO l (fk k p)=[(z,f)]∧(∃h,FR l (fk k p) (z,f) h)∧vz S z∧¬nest S z∧plc z=p∧Rt S is b (pcA S z) g j∧g p=f:=by
 obtain⟨z,f,hh,g,j,h1,h2,h3,h4,h5,h6⟩:=h p
 exact⟨z,f,g,j,frO_eq h1,⟨hh,h1⟩,h2,h3,h4,h5,h6⟩
theorem mvI_2 {x:av} (h:x.op=2) (j:Nat):mvI x text j=[((x.x.toNat,j),id),((x.y.toNat,j),id)]:=by rw[mvI,if_pos h]
theorem mvI_7 {x:av} (h:x.op=7) (j:Nat):mvI x text j=[((x.x.toNat,j),id)]:=by rw[mvI,if_neg (by omega),if_pos h]
theorem mvI_3 {x:av} (h:x.op=3) (j:Nat):mvI x text j=[((x.x.toNat,j),jy x.arg j)]:=by rw[mvI,if_neg (by omega),if_neg (by omega),if_pos h];rfl
theorem mvI_4 {x:av} (h:x.op=4) (j:Nat):mvI x text j=if cZ x.arg (part text j 6) then [((x.x.toNat,j),id)] else []:=by rw[mvI,if_neg (by omega),if_neg (by omega),if_neg (by omega),if_pos h]
theorem mvI_1 {x:av} (h:x.op=1) (j:Nat):mvI x text j=if dI x.rs text j then [((x.x.toNat,j+1),id)] else []:=by rw[mvI,if_neg (by omega),if_neg (by omega),if_neg (by omega),if_neg (by omega),if_pos h]
theorem mvI_6 {x:av} (h:x.op=6) (j:Nat):mvI x text j=[]:=by rw[mvI,if_neg (by omega),if_neg (by omega),if_neg (by omega),if_neg (by omega),if_neg (by omega)]
theorem mv_k2 {n p:Nat} {x:PN} (hx:l[n]?=some x) (hk:x.kind=2):mvA E l (.B n p)=if E.cls x.rs p=true then frO l (.H n (p+1)) else []:=by simp only[mvA,hx];rw[if_pos hk]
theorem mv_k3 {n p:Nat} {x:PN} (hx:l[n]?=some x) (hk:x.kind=3):mvA E l (.B n p)=if E.asr x.asr p=true then frO l (.H n p) else []:=by simp only[mvA,hx];rw[if_neg (by omega),if_pos hk]
theorem mv_k5 {n p:Nat} {x:PN} (hx:l[n]?=some x) (hk:x.kind=5):mvA E l (.B n p)=x.subs.flatMap (fun s=>frO l (.B s p)):=by simp only[mvA,hx];rw[if_neg (by omega),if_neg (by omega),if_pos hk]
theorem mv_kq {n p:Nat} {x:PN} (hx:l[n]?=some x) (hk:x.kind=103):mvA E l (.B n p)=chA l n p x:=by simp only[mvA,hx];rw[if_neg (by omega),if_neg (by omega),if_neg (by omega),if_pos hk]
theorem mv_D {n p:Nat} {x:PN} (hx:l[n]?=some x):mvA E l (.D n p)=chA l n p x:=by simp only[mvA,hx]
theorem rt_to (br:BR S l is Ba Bb noA 0) {b q:Nat} {g:Nat→CpF} {k:Nat} (h:Rt S is b q g k):∀ {z:AS},pcA S z=q→vz S z→¬nest S z→¬Ba z→HtP is text Bb (q,plc z)→HtP is text Bb (b,plc z):=by
 induction h with
 | nil q h=>exact fun _ _ _ _ h=>h
 | nop b x q g k h1 h2 h3 h4 ih =>
  intro z e v n hz hh
  refine .go _ (x.x.toNat,plc z) id (fun hb=>?_) (by rw[bV h2,mvI_7 h3];simp) (ih e v n hz hh)
  rcases br.ofN b (plc z) q _ (k+1) h1 hb (.nop b x q g k h1 h2 h3 h4) z v n rfl e with c | c
  ·exact hz c
  ·exact c.1
 | cap b x q g k h1 h2 h3 h4 ih =>
  intro z e v n hz hh
  refine .go _ (x.x.toNat,plc z) (jy x.arg (plc z)) (fun hb=>?_) (by rw[bV h2,mvI_3 h3];simp) (ih e v n hz hh)
  rcases br.ofN b (plc z) q _ (k+1) h1 hb (.cap b x q g k h1 h2 h3 h4) z v n rfl e with c | c
  ·exact hz c
  ·exact c.1
def To (S:Sm) (l:List PN) (is:List av) (text:List Int) (Ba:AS→Prop) (Bb:BC→Prop) (z:AS):Prop :=
 (¬nest S z→HtP is text Bb (pcA S z,plc z))∧∀n p x,z=.B n p→l[n]?=some x→S.hd n≠n→¬Ba (.B (S.hd n) p)→∀b t,Ch S l is (S.hd n) n x.subs b (some t)→HtP is text Bb (b,p)
theorem cf_to (br:BR S l is Ba Bb noA 0) {k:FK0} {b p:Nat} (h:CF S l is k b) {r:AS} {f:CpF} (hr:(r,f)∈frO l (fk k p)) (hh:HtA E l Ba r) (ih:vz S r→To S l is text Ba Bb r):HtP is text Bb (b,p):=by
 obtain⟨z,f',g,j,h1,-,h2,h3,h4,h5,h6⟩:=h.at_ p
 rw[h1] at hr
 simp at hr
 obtain⟨rfl,rfl⟩:=hr
 rw[←h4]
 exact rt_to br h5 rfl h2 h3 hh.notB ((ih h2).1 h3)
theorem ch_to (br:BR S l is Ba Bb noA 0) {m i:Nat} {ms:List Nat} {b:Nat} {tt:Option Nat} (h:Ch S l is m i ms b tt):∀ {p s:Nat} {r:AS} {f:CpF},¬Ba (.B m p)→s∈ms→(r,f)∈frO l (.B s p)→HtA E l Ba r→(vz S r→To S l is text Ba Bb r)→HtP is text Bb (b,p):=by
 induction h with
 | last i s b h1 =>
  intro p s' r f hm hs hr hh ih
  simp at hs
  subst hs
  exact cf_to br h1 hr hh ih
 | nil i t=>intro p s' r f hm hs;simp at hs
 | plain i s r b x t h1 h2 h3 h4 h5 h6 ihc =>
  intro p s' r' f hm hs hr hh ih
  have hb:¬Bb (b,p):=fun hb=>hm (br.ofC b m p h4 hb)
  rcases List.mem_cons.1 hs with rfl | hs
  ·exact .go _ (x.x.toNat,p) id hb (by rw[bV h1,mvI_2 h2];simp) (cf_to br h5 hr hh ih)
  ·exact .go _ (x.y.toNat,p) id hb (by rw[bV h1,mvI_2 h2];simp) (ihc hm hs hr hh ih)
 | nested i s n y r b t u h1 h2 h3 h4 hnm hni hva hbt h5 h6 ih1 ih2 =>
  intro p s' r' f hm hs hr hh ih
  rcases List.mem_cons.1 hs with rfl | hs
  ·obtain⟨k,hk⟩:=h1 p
   rw[frO_eq hk] at hr
   simp at hr
   obtain⟨rfl,rfl⟩:=hr
   exact(ih hva).2 n p y rfl h2 (by rw[h4];exact fun e=>hnm e.symm) (by rw[h4];exact hm) b t (by rw[h4];exact h5)
  ·have ht:=ih2 hm hs hr hh ih
   have key:∀ {i:Nat} {ms:List Nat} {b:Nat} {tt:Option Nat},Ch S l is m i ms b tt→∀t,tt=some t→HtP is text Bb (t,p)→HtP is text Bb (b,p):=by
    intro i ms b tt h
    induction h with
    | last i s b h1=>intro t e;cases e
    | nil i t=>intro t' e hh;injection e with e;subst e;exact hh
    | plain i s r b x t h1 h2 h3 h4 h5 h6 ihc =>
     intro t' e hh
     exact .go _ (x.y.toNat,p) id (fun hb=>hm (br.ofC b m p h4 hb)) (by rw[bV h1,mvI_2 h2];simp) (ihc t' e hh)
    | nested i s n y r b t u h1 h2 h3 h4 _ _ _ _ h5 h6 ih1 ih2 =>
     intro t' e hh
     exact ih1 t rfl (ih2 t' e hh)
   exact key h5 t rfl ht
theorem chA_mem {n p:Nat} {x:PN} {v:AS × CpF} (h:v∈chA l n p x):v∈frO l (.B (aR x) p)∨v∈frO l (.H n p):=by
 unfold chA at h
 split at h
 ·rcases List.mem_append.1 h with h | h
  ·exact .inr h
  ·exact .inl h
 ·rcases List.mem_append.1 h with h | h
  ·exact .inl h
  ·exact .inr h
theorem lp_to (br:BR S l is Ba Bb noA 0) {n p q:Nat} {x:PN} (h:Lp S l is n x q) (hb:¬Bb (q,p)) {r:AS} {f:CpF} (hr:(r,f)∈chA l n p x) (hh:HtA E l Ba r) (ih:vz S r→To S l is text Ba Bb r):HtP is text Bb (q,p):=by
 obtain⟨y,h1,h2,h3,h4⟩:=h
 rcases chA_mem hr with hr | hr
 ·refine .go _ ((if x.lz=true then y.y.toNat else y.x.toNat),p) id hb ?_ (cf_to br h3 hr hh ih)
  rw[bV h1,mvI_2 h2]
  split <;> simp
 ·refine .go _ ((if x.lz=true then y.x.toNat else y.y.toNat),p) id hb ?_ (cf_to br h4 hr hh ih)
  rw[bV h1,mvI_2 h2]
  split <;> simp
theorem he_to (ok:kV S l is E text) (br:BR S l is Ba Bb noA 0) {z:AS} (h:HtA E l Ba z):vz S z→To S l is text Ba Bb z:=by
 induction h with
 | fin z h1 h2 =>
  intro v
  cases z with
  | B n p=>exact h2.elim
  | D n p=>exact h2.elim
  | E p =>
   refine⟨fun _=>?_,fun n p x e=>by cases e⟩
   obtain⟨x,g1,g2,g3,g4⟩:=ok.e1
   obtain⟨y,g5,g6⟩:=ok.e2
   refine .go _ (S.pe+1,p) (jy x.arg p) (br.noP p).1 (by show _∈mvs is text (S.pe,p);rw[bV g1,mvI_3 g2,g4];simp) (.fin _ (br.noP p).2 ⟨y,g5,g6⟩)
 | go z r f h1 h2 h3 ih =>
  intro v
  cases z with
  | E p=>simp[mvA] at h2
  | D n p =>
   refine⟨fun _=>?_,fun n p x e=>by cases e⟩
   obtain⟨x,hx⟩:=ok.vdl n v
   rw[mv_D hx] at h2
   obtain⟨g1,g2⟩:=ok.kl n x v hx
   exact lp_to br g2 (fun hb=>h1 (br.ofD _ n p g1 hb)) h2 h3 ih
  | B n p =>
   obtain⟨x,hx⟩:=ok.vl n v
   rcases ok.kn n x v hx with hk | hk | hk | hk
   ·obtain⟨g1,g2,y,g3,g4⟩:=ok.k2 n x v hx hk
    refine⟨fun _=>?_,fun n' p' x' e _ hd=>by injection e with e1;subst e1;exact absurd g2 hd⟩
    rw[mv_k2 hx hk,ok.cls] at h2
    split at h2
    ·rename_i hf
     rcases g4 with⟨g4,g5,g6⟩ | ⟨g4,g5⟩
     ·refine .go _ (y.x.toNat,p+1) id (fun hb=>h1 (br.ofB _ n p g1 hb)) ?_ (cf_to (k:=.H n) br g6 h2 h3 ih)
      show _∈mvs is text (S.kb n,p)
      rw[bV g3,mvI_1 g4,g5,if_pos hf]
      simp
     ·rw[g5] at hf
      unfold dI at hf
      split at hf
      ·cases hf
      ·simp[hasB,inB] at hf
    ·simp at h2
   ·obtain⟨g1,g2,y,g3,g4,g5,g6⟩:=ok.k3 n x v hx hk
    refine⟨fun _=>?_,fun n' p' x' e _ hd=>by injection e with e1;subst e1;exact absurd g2 hd⟩
    rw[mv_k3 hx hk,ok.asr] at h2
    split at h2
    ·rename_i hf
     refine .go _ (y.x.toNat,p) id (fun hb=>h1 (br.ofB _ n p g1 hb)) ?_ (cf_to (k:=.H n) br g6 h2 h3 ih)
     show _∈mvs is text (S.kb n,p)
     rw[bV g3,mvI_4 g4,g5,if_pos hf]
     simp
    ·simp at h2
   ·rw[mv_k5 hx hk] at h2
    obtain⟨s,hs,hr⟩:=List.mem_flatMap.1 h2
    refine⟨fun hn=>?_,fun n' p' x' e hx' hd hm b t hc=>?_⟩
    ·have e:S.hd n=n:=Classical.byContradiction hn
     exact ch_to br (ok.k5 n x v hx hk e).2.1 h1 hs hr h3 ih
    ·injection e with e1 e2
     subst e1 e2
     rw[hx] at hx'
     injection hx' with hx'
     subst hx'
     exact ch_to br hc hm hs hr h3 ih
   ·obtain⟨g1,g2,g3⟩:=ok.kq n x v hx hk
    refine⟨fun _=>?_,fun n' p' x' e _ hd=>by injection e with e1;subst e1;exact absurd g2 hd⟩
    rw[mv_kq hx hk] at h2
    exact lp_to br g3 (fun hb=>h1 (br.ofB _ n p g1 hb)) h2 h3 ih
end
end Go.Proofs.Ytnkefclbchpafaa

/-
  What can be come to in the program can be come to in its row of nodes. Plain.
-/
namespace Go.Proofs.Ytnkefclbchpafaa
set_option linter.unusedVariables false
section
variable {σ C : Type}
inductive HtL (mv:σ→List (σ × (C→C))) (fin:σ→Prop) (B:σ→Prop):Nat→σ→Prop
 | fin (q:σ):¬B q→fin q→HtL mv fin B 0 q
 | go (n:Nat) (q r:σ) (f:C→C):¬B q→(r,f)∈mv q→HtL mv fin B n r→HtL mv fin B (n+1) q
theorem Ht.len {mv:σ→List (σ × (C→C))} {fin:σ→Prop} {B:σ→Prop} {q:σ} (h:Ht mv fin B q):∃n,HtL mv fin B n q:=by
 induction h with
 | fin q h1 h2=>exact⟨0,.fin q h1 h2⟩
 | go q r f h1 h2 _ ih=>obtain⟨n,h⟩:=ih;exact⟨n+1,.go n q r f h1 h2 h⟩
theorem HtL.notB {mv:σ→List (σ × (C→C))} {fin:σ→Prop} {B:σ→Prop} {q:σ} {n:Nat} (h:HtL mv fin B n q):¬B q:=by cases h <;> assumption
end
section
variable {S : Sm} {l : List PN} {is : List av} {E : Env} {text : List Int} {Ba : AS → Prop} {Bb : BC → Prop}
abbrev HtLP (is:List av) (text:List Int):=HtL (mvs is text) (isM is)
theorem HtLP.step {n pc p:Nat} {x:av} (h:HtLP is text Bb n (pc,p)) (hx:is[pc]?=some x) (h5:x.op≠5):∃n0 r f,n=n0+1∧(r,f)∈mvI x text p∧HtLP is text Bb n0 r:=by
 cases h with
 | fin _ _ h2 =>
  obtain⟨y,h3,h4⟩:=h2
  simp only at h3
  rw[hx] at h3
  injection h3 with h3
  subst h3
  exact absurd h4 h5
 | go n0 _ r f h1 h2 h3 =>
  rw[bV hx] at h2
  exact⟨n0,r,f,rfl,h2,h3⟩
def RP (S:Sm) (l:List PN) (is:List av) (E:Env) (text:List Int) (Ba:AS→Prop) (Bb:BC→Prop) (n:Nat):Prop :=
 ∀b p,HtLP is text Bb n (b,p)→∀q g k,Rt S is b q g k→∀z,pcA S z=q→vz S z→¬nest S z→plc z=p→HtA E l Ba z
def AliveIn (l:List PN) (E:Env) (Ba:AS→Prop) (ms:List Nat) (p:Nat):Prop:=∃s∈ms,∃r f,(r,f)∈frO l (.B s p)∧HtA E l Ba r
def CPc (S:Sm) (l:List PN) (is:List av) (E:Env) (text:List Int) (Ba:AS→Prop) (Bb:BC→Prop) (n:Nat) (one:Bool):Prop :=
 ∀b p,HtLP is text Bb n (b,p)→∀m i ms tt,Ch S l is m i ms b tt→¬Ba (.B m p)→(one=true∨tt≠none∨2≤ms.length) →
  AliveIn l E Ba ms p∨∃t n',tt=some t∧n'≤n∧(n'=n→t=b)∧HtLP is text Bb n' (t,p)
theorem cf_of {n:Nat} (hR:RP S l is E text Ba Bb n) {k:FK0} {b p:Nat} (h:CF S l is k b) (hh:HtLP is text Bb n (b,p)):∃r f,(r,f)∈frO l (fk k p)∧HtA E l Ba r:=by
 obtain⟨z,f,g,j,h1,-,h2,h3,h4,h5,h6⟩:=h.at_ p
 exact⟨z,f,by rw[h1];simp,hR b p hh _ _ _ h5 z rfl h2 h3 h4⟩
theorem cp_of (br:BR S l is Ba Bb noA 0) {n:Nat} (hR:∀n',n' < n→RP S l is E text Ba Bb n') (hC:∀n',n' < n→CPc S l is E text Ba Bb n' true):CPc S l is E text Ba Bb n false:=by
 intro b p hh m i ms tt hc hm hone
 induction hc with
 | last i s b h1 =>
  exfalso
  rcases hone with h | h | h
  ·cases h
  ·exact h rfl
  ·simp at h
 | nil i t=>exact .inr ⟨t,n,rfl,Nat.le_refl _,fun _=>rfl,hh⟩
 | plain i s r b x t h1 h2 h3 h4 h5 h6 ihc =>
  obtain⟨n0,y,f,rfl,hy,hn⟩:=hh.step h1 (by omega)
  rw[mvI_2 h2] at hy
  simp at hy
  rcases hy with⟨rfl,-⟩ | ⟨rfl,-⟩
  ·obtain⟨r',f',e1,e2⟩:=cf_of (hR n0 (by omega)) (k:=.B s) h5 hn
   exact .inl ⟨s,by simp,r',f',e1,e2⟩
  ·rcases hC n0 (by omega) _ p hn m _ r t h6 hm (.inl rfl) with⟨s',a,b⟩ | ⟨t',n',e1,e2,e3,e4⟩
   ·exact .inl ⟨s',by simp[a],b⟩
   ·exact .inr ⟨t',n',e1,by omega,fun e=>by omega,e4⟩
 | nested i s n2 y r b t u h1 h2 h3 h4 hnm hni hva hbt h5 h6 ih1 ih2 =>
  rcases ih1 hh (.inr (.inl (by simp))) with⟨s',a,r',f',e1,e2⟩ | ⟨t',n',e1,e2,e3,e4⟩
  ·obtain⟨k,hk⟩:=h1 p
   refine .inl ⟨s,by simp,.B n2 p,id,by rw[frO_eq hk];simp,?_⟩
   refine .go _ r' f' (fun hb=>hm ?_) (by rw[mv_k5 h2 h3];exact List.mem_flatMap.2 ⟨s',a,e1⟩) e2
   have:=br.hd n2 p hb hva
   rw[h4] at this
   exact this
  ·injection e1 with e1
   subst e1
   have hlt:n' < n:=by
    rcases Nat.lt_or_ge n' n with h | h
    ·exact h
    ·have:=e3 (by omega);omega
   rcases hC n' hlt _ p e4 m _ r u h6 hm (.inl rfl) with⟨s',a,b⟩ | ⟨t2,n2,f1,f2,f3,f4⟩
   ·exact .inl ⟨s',by simp[a],b⟩
   ·exact .inr ⟨t2,n2,f1,by omega,fun e=>by omega,f4⟩
theorem lp_of (br:BR S l is Ba Bb noA 0) {n i p q:Nat} {x:PN} (h:Lp S l is i x q) (hR:∀n',n' < n→RP S l is E text Ba Bb n') (hh:HtLP is text Bb n (q,p)):∃r f,(r,f)∈chA l i p x∧HtA E l Ba r:=by
 obtain⟨y,h1,h2,h3,h4⟩:=h
 obtain⟨n0,r,f,rfl,hy,hn⟩:=hh.step h1 (by omega)
 rw[mvI_2 h2] at hy
 simp at hy
 have hb:HtLP is text Bb n0 ((if x.lz=true then y.y.toNat else y.x.toNat),p)∨HtLP is text Bb n0 ((if x.lz=true then y.x.toNat else y.y.toNat),p):=by
  rcases hy with⟨rfl,-⟩ | ⟨rfl,-⟩
  ·split
   ·exact .inr hn
   ·exact .inl hn
  ·split
   ·exact .inl hn
   ·exact .inr hn
 rcases hb with hb | hb
 ·obtain⟨r',f',e1,e2⟩:=cf_of (hR n0 (by omega)) h3 hb
  refine⟨r',f',?_,e2⟩
  unfold chA
  split
  ·exact List.mem_append.2 (.inr e1)
  ·exact List.mem_append.2 (.inl e1)
 ·obtain⟨r',f',e1,e2⟩:=cf_of (hR n0 (by omega)) h4 hb
  refine⟨r',f',?_,e2⟩
  unfold chA
  split
  ·exact List.mem_append.2 (.inl e1)
  ·exact List.mem_append.2 (.inr e1)
theorem he_of (ok:kV S l is E text) (br:BR S l is Ba Bb noA 0):∀N n,n≤N→RP S l is E text Ba Bb n∧CPc S l is E text Ba Bb n true:=by
 intro N
 induction N using Nat.strongRecOn with
 | _ N ihN =>
 intro n hnN
 by_cases hlt:n < N
 ·exact ihN n hlt n (Nat.le_refl _)
 obtain rfl:n=N:=by omega
 have hRl:∀n',n' < n→RP S l is E text Ba Bb n':=fun n' h=>(ihN n' h n' (Nat.le_refl _)).1
 have hCl:∀n',n' < n→CPc S l is E text Ba Bb n' true:=fun n' h=>(ihN n' h n' (Nat.le_refl _)).2
 have hC:=cp_of br hRl hCl
 have hR:RP S l is E text Ba Bb n:=by
  intro b p hh q g k hrt
  cases hrt with
  | nop _ x _ g k h1 h2 h3 h4 =>
   intro z ez v nn hp
   obtain⟨n0,r,f,e,hy,hn⟩:=hh.step h2 (by omega)
   rw[mvI_7 h3] at hy
   simp at hy
   obtain⟨rfl,-⟩:=hy
   exact hRl n0 (by omega) _ p hn _ _ _ h4 z ez v nn hp
  | cap _ x _ g k h1 h2 h3 h4 =>
   intro z ez v nn hp
   obtain⟨n0,r,f,e,hy,hn⟩:=hh.step h2 (by omega)
   rw[mvI_3 h3] at hy
   simp at hy
   obtain⟨rfl,-⟩:=hy
   exact hRl n0 (by omega) _ p hn _ _ _ h4 z ez v nn hp
  | nil _ h1 =>
   intro z ez v nn hp
   have hzb:¬Ba z:=fun hb=>hh.notB (by have:=br.toB z hb v nn;rw[ez,hp] at this;exact this)
   subst ez
   cases z with
   | E p'=>exact .fin _ hzb trivial
   | D i p' =>
    have hp:p'=p:=hp
    subst hp
    obtain⟨x,hx⟩:=ok.vdl i v
    obtain⟨g1,g2⟩:=ok.kl i x v hx
    obtain⟨r,f,e1,e2⟩:=lp_of br g2 hRl hh
    exact .go _ r f hzb (by rw[mv_D hx];exact e1) e2
   | B i p' =>
    have hp:p'=p:=hp
    subst hp
    obtain⟨x,hx⟩:=ok.vl i v
    rcases ok.kn i x v hx with hk | hk | hk | hk
    ·obtain⟨g1,g2,y,g3,g4⟩:=ok.k2 i x v hx hk
     rcases g4 with⟨g4,g5,g6⟩ | ⟨g4,g5⟩
     ·obtain⟨n0,r,f,e,hy,hn⟩:=hh.step g3 (by omega)
      rw[mvI_1 g4] at hy
      split at hy
      ·rename_i hf
       simp at hy
       obtain⟨rfl,-⟩:=hy
       obtain⟨r',f',e1,e2⟩:=cf_of (hRl n0 (by omega)) (k:=.H i) g6 hn
       exact .go _ r' f' hzb (by rw[mv_k2 hx hk,ok.cls,←g5,if_pos hf];exact e1) e2
      ·simp at hy
     ·obtain⟨n0,r,f,e,hy,hn⟩:=hh.step g3 (by omega)
      rw[mvI_6 g4] at hy
      simp at hy
    ·obtain⟨g1,g2,y,g3,g4,g5,g6⟩:=ok.k3 i x v hx hk
     obtain⟨n0,r,f,e,hy,hn⟩:=hh.step g3 (by omega)
     rw[mvI_4 g4] at hy
     split at hy
     ·rename_i hf
      simp at hy
      obtain⟨rfl,-⟩:=hy
      obtain⟨r',f',e1,e2⟩:=cf_of (hRl n0 (by omega)) (k:=.H i) g6 hn
      exact .go _ r' f' hzb (by rw[mv_k3 hx hk,ok.asr,←g5,if_pos hf];exact e1) e2
     ·simp at hy
    ·have e:S.hd i=i:=Classical.byContradiction nn
     obtain⟨g1,g2,g3⟩:=ok.k5 i x v hx hk e
     rcases hC _ _ hh i _ x.subs none g2 hzb (.inr (.inr g3)) with⟨s,a,r,f,e1,e2⟩ | ⟨t,n',e1,-⟩
     ·exact .go _ r f hzb (by rw[mv_k5 hx hk];exact List.mem_flatMap.2 ⟨s,a,e1⟩) e2
     ·cases e1
    ·obtain⟨g1,g2,g3⟩:=ok.kq i x v hx hk
     obtain⟨r,f,e1,e2⟩:=lp_of br g3 hRl hh
     exact .go _ r f hzb (by rw[mv_kq hx hk];exact e1) e2
 refine⟨hR,fun b p hh m i ms tt hc hm hone=>?_⟩
 by_cases hcase:tt≠none∨2≤ms.length
 ·exact hC b p hh m i ms tt hc hm (.inr hcase)
 ·cases hc with
  | last i s _ h1 =>
   obtain⟨r,f,e1,e2⟩:=cf_of hR (k:=.B s) h1 hh
   exact .inl ⟨s,by simp,r,f,e1,e2⟩
  | nil i t=>exact absurd (.inl (by simp)) hcase
  | plain i s r _ x t h1 h2 h3 h4 h5 h6 =>
   exfalso
   apply hcase
   cases h6 with
   | last=>right;simp
   | nil=>left;simp
   | plain=>right;simp
   | nested=>right;simp
  | nested i s n2 y r _ t u h1 h2 h3 h4 hnm hni hva hbt h5 h6 =>
   exfalso
   apply hcase
   cases h6 with
   | last=>right;simp
   | nil=>left;simp
   | plain=>right;simp
   | nested=>right;simp
theorem he_iff (ok:kV S l is E text) (br:BR S l is Ba Bb noA 0) {z:AS} (v:vz S z) (nn:¬nest S z) {b:Nat} {g:Nat→CpF} {k:Nat} (hr:Rt S is b (pcA S z) g k):HtA E l Ba z↔HtP is text Bb (b,plc z):=by
 constructor
 ·exact fun h=>rt_to br hr rfl v nn h.notB ((he_to ok br h v).1 nn)
 ·intro h
  obtain⟨n,hn⟩:=h.len
  exact(he_of ok br n n (Nat.le_refl _)).1 b _ hn _ _ _ hr z rfl v nn rfl
end
end Go.Proofs.Ytnkefclbchpafaa
