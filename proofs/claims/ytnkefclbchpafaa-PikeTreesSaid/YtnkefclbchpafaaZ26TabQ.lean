/-
  Stage, StageP, TabQ, put together.
-/
import Derived.Test.YtnkefclbchpafaaZ14Held
import Derived.Test.YtnkefclbchpafaaZ22TabS

/-
  A tree's row of nodes and its program: what the walk through the row finds first is what the program's anchored run finds. Plain.
-/
namespace Go.Proofs.Ytnkefclbchpafaa
set_option linter.unusedVariables false
section
variable {is : List av} {text : List Int}
def WZ (o:Option (List Int × Int)):Prop:=∀c w,o=some (c,w)→w=0
theorem jX (h0:∀(i:Nat) (x:av),is[i]?=some x→x.op=5→x.arg=0) {j:Nat}:∀(f pc:Nat) (caps:List Int) (s:VSt),WZ s.found→WZ (aO is text j f pc caps s).found
 | 0,pc,caps,s,h=>h
 | f+1,pc,caps,s,h=>by
  rw[aO]
  split
  ·exact h
  split
  ·exact h
  rename_i x hx
  simp only
  split
  ·exact jX h0 f _ _ _ (jX h0 f _ _ _ h)
  split
  ·exact jX h0 f _ _ _ h
  split
  ·exact jX h0 f _ _ _ h
  split
  ·split
   ·exact jX h0 f _ _ _ h
   ·exact h
  split
  ·split
   ·exact h
   ·exact h
  split
  ·rename_i h5
   intro c w e
   injection e with e
   injection e with e1 e2
   rw[←e2]
   exact h0 _ _ hx h5
  ·exact h
theorem visitAll_w (h0:∀(i:Nat) (x:av),is[i]?=some x→x.op=5→x.arg=0) {j:Nat}:∀(l:List (Nat × List Int)) (s:VSt),WZ s.found→WZ (ay is text j l s).found
 | [],s,h=>h
 | x::r,s,h=>visitAll_w h0 r _ (jX h0 _ _ _ _ h)
theorem searchF_w (h0:∀(i:Nat) (x:av),is[i]?=some x→x.op=5→x.arg=0) {st:Nat} {nn:List Int} {a:Nat} {an:Bool}:∀(f j:Nat) (ths:List (Nat × List Int)) (fo:Option (List Int × Int)) (steps:Nat),WZ fo→WZ (bM is st nn text a an f j ths fo steps).1
 | 0,j,ths,fo,steps,h=>h
 | f+1,j,ths,fo,steps,h=>by
  have hp:∀ours,WZ (iP is st nn text j ours ths fo steps).found:=fun ours=>by
   unfold iP
   have:=visitAll_w (text:=text) h0 (j:=j) ths { met:=List.replicate is.length false,next:=[],found:=fo,steps:=steps,over:=false } h
   split
   ·exact jX h0 _ _ _ _ this
   ·exact this
  rw[bM]
  try simp only
  split
  ·exact hp _
  ·exact searchF_w h0 f _ _ _ _ (hp _)
theorem runF_w (h0:∀(i:Nat) (x:av),is[i]?=some x→x.op=5→x.arg=0) {st m a:Nat} {an:Bool}:WZ (jv is st m text a an).1:=searchF_w h0 _ _ _ _ _ (fun c w e=>by cases e)
end
theorem Gd.map_ {σ C:Type} {mv:σ→List (σ × (C→C))} {fin:σ→Prop} {g:C→C} (hc:∀q r f,(r,f)∈mv q→∀c,f (g c)=g (f c)) {B:σ→Prop} {q:σ} {c:C} {e:σ × C} (h:Gd mv fin B q c e):Gd mv fin B q (g c) (e.1,g e.2):=by
 induction h with
 | fin B q c h1 h2=>exact .fin B q _ h1 h2
 | go B q c l1 r f l2 e h1 h2 h3 _ ih=>exact .go B q _ l1 r f l2 _ h1 h2 h3 (by rw[hc q r f (by rw[h2];simp)];exact ih)
def GrS (l:List PN):Prop:=∀(i:Nat) (x:PN),l[i]?=some x→x.kind=7→1≤x.ix
def Com0 (f:CpF):Prop:=∀(a:Int) (c:List Int),f (c.set 0 a)=(f c).set 0 a
theorem com0_id:Com0 id:=fun _ _=>rfl
theorem com0_set {f:CpF} (h:Com0 f) {i:Int} (hi:1≤i) (p:Nat):Com0 (f ∘ jy i p):=fun a c=>by
 show f ((c.set 0 a).set i.toNat (p:Int))=_
 rw[List.set_comm _ _ (by omega:(0:Nat)≠i.toNat)]
 exact h a _
theorem jB {l:List PN} (hg:GrS l):∀(h:Nat) (k:FK) (v:AS × CpF),frF l h k=some v→Com0 v.2
 | 0,k,v,e=>by simp[frF] at e
 | h+1,.B n p,v,e=>by
  rw[frF] at e
  split at e
  ·cases e
  ·rename_i x hx
   try simp only at e
   split at e
   ·exact jB hg h _ v e
   split at e
   ·exact jB hg h _ v e
   split at e
   ·rename_i k1
    cases hq:frF l h (.B (aR x) p) with
    | none=>rw[hq] at e;cases e
    | some q =>
     rw[hq] at e
     injection e with e
     subst e
     have:=hg n x hx k1
     exact com0_set (jB hg h _ q hq) (by omega) p
   split at e
   ·injection e with e;subst e;exact com0_id
   ·injection e with e;subst e;exact com0_id
 | h+1,.H n p,v,e=>by
  rw[frF] at e
  split at e
  ·cases e
  ·rename_i x hx
   try simp only at e
   split at e
   ·injection e with e;subst e;exact com0_id
   split at e
   ·cases e
   ·rename_i y hy
    try simp only at e
    split at e
    ·split at e
     ·exact jB hg h _ v e
     ·exact jB hg h _ v e
    split at e
    ·rename_i k1
     cases hq:frF l h (.H x.up.toNat p) with
     | none=>rw[hq] at e;cases e
     | some q =>
      rw[hq] at e
      injection e with e
      subst e
      have:=hg _ y hy k1
      exact com0_set (jB hg h _ q hq) (by omega) p
    split at e
    ·injection e with e;subst e;exact com0_id
    ·exact jB hg h _ v e
theorem frO_com {l:List PN} (hg:GrS l) {k:FK} {r:AS} {f:CpF} (h:(r,f)∈frO l k):Com0 f:=by
 unfold frO at h
 split at h
 ·rename_i hex
  obtain⟨h',b⟩:=Classical.choose_spec hex
  simp at h
  have:=jB hg _ _ _ b.1
  rw[←h] at this
  exact this
 ·simp at h
theorem chA_com {l:List PN} (hg:GrS l) {n p:Nat} {x:PN} {r:AS} {f:CpF} (h:(r,f)∈chA l n p x):Com0 f:=by
 unfold chA at h
 split at h <;> (rcases List.mem_append.1 h with h | h <;> exact frO_com hg h)
theorem mvA_com {E:Env} {l:List PN} (hg:GrS l) (q r:AS) (f:CpF) (h:(r,f)∈mvA E l q):Com0 f:=by
 cases q with
 | E p=>simp[mvA] at h
 | D n p =>
  simp only[mvA] at h
  split at h
  ·simp at h
  ·exact chA_com hg h
 | B n p =>
  simp only[mvA] at h
  split at h
  ·simp at h
  split at h
  ·split at h
   ·exact frO_com hg h
   ·simp at h
  split at h
  ·split at h
   ·exact frO_com hg h
   ·simp at h
  split at h
  ·obtain⟨s,hs,h⟩:=List.mem_flatMap.1 h
   exact frO_com hg h
  split at h
  ·exact chA_com hg h
  ·simp at h
end Go.Proofs.Ytnkefclbchpafaa

/-
  The stage's theorem, plain: the first parse that the walk through the row of nodes finds is what the program finds.
-/
namespace Go.Proofs.Ytnkefclbchpafaa
set_option linter.unusedVariables false
section
variable {l : List PN} {is : List av} {E : Env} {text : List Int} {u : UT} {root e : Nat}
structure Stg (l:List PN) (is:List av) (E:Env) (text:List Int) (u:UT) (root e:Nat):Prop where
 low:LowS l
 rep:Rep l u root
 top:∃x,l[root]?=some x∧x.up < 0
 ly:Ly is u 1 e
 i0:∃x:av,is[0]?=some x∧x.op=3∧x.arg=0∧x.x.toNat=1
 i1:∃x:av,is[e]?=some x∧x.op=3∧x.arg=1∧x.x.toNat=e+1
 i2:∃x:av,is[e+1]?=some x∧x.op=5
 cls:∀rs p,E.cls rs p=dI rs text p
 asr:∀a p,E.asr a p=cZ a (part text p 6)
 grp:GrS l
 zero:∀(i:Nat) (x:av),is[i]?=some x→x.op=5→x.arg=0
theorem Stg.sm (h:Stg l is E text u root e):∃S,kV S l is E text∧CF S l is (.B root) 1∧S.own 0=none:=by
 classical
 let S0:Sm:=⟨fun _=>0,fun _=>0,fun _=>0,ups (fun _=>none) e (some .en),e,fun _=>True,fun _=>True⟩
 have h1e:=ly_le u 1 e h.ly
 obtain⟨S1,o,wo,st⟩:=ex_pl h.low u root 1 e S0 h.ly h.rep
 let S:Sm:=⟨S1.kb,S1.kd,S1.hd,S1.own,e,fun i=>Des l root i∧∃x,l[i]?=some x∧(x.kind=2∨x.kind=3∨x.kind=5∨x.kind=103),fun i=>Des l root i∧∃x,l[i]?=some x∧(x.kind=101∨x.kind=102)⟩
 have hpl:Pl S l is u root 1 e:=st S ⟨fun _ _=>⟨rfl,rfl,rfl⟩,fun _ _ _=>rfl⟩
 have r0:Rt0 S l root:=⟨fun i x hi hx hk=>⟨hi,x,hx,hk⟩,fun i x hi hx hk=>⟨hi,x,hx,hk⟩⟩
 have out:∀q,q < 1∨e≤q→S.own q=if q=e then some .en else none:=fun q hq=>(o.pc q hq).trans (by show ups (fun _=>none) e (some OT.en) q=_;unfold ups;rfl)
 have oe:S.own e=some .en:=by rw[out e (.inr (Nat.le_refl _)),if_pos rfl]
 obtain⟨xr,hx1,hx2⟩:=h.top
 have hc:CF S l is (.H root) e:=fun p=>⟨.E p,id,1,fun _=>id,0,FR.now (st_h0 hx1 hx2),trivial,fun h=>h,rfl,.nil e (by rw[oe];simp),rfl⟩
 have fct:∀i,Des l root i→Fct S l is i:=pl_ok r0 u root 1 e hpl h.rep (.here root) hc
 have inr:∀q o',S.own q=some o'→o'≠.en→1≤q∧q < e:=fun q o' ho hne=>by
  by_cases hq:1≤q∧q < e
  ·exact hq
  ·have:=out q (by omega)
   rw[ho] at this
   split at this
   ·injection this with this;exact absurd this hne
   ·cases this
 refine⟨S,⟨h.cls,h.asr,fun q n ho=>?_,fun q n ho=>?_,fun q ho=>?_,oe,h.i1,h.i2,?_,fun n x hv hx hk=>(fct n hv.1).k2 x hx hk,fun n x hv hx hk=>(fct n hv.1).k3 x hx hk,fun n x hv hx hk=>(fct n hv.1).kq x hx hk,fun n x hv hx=>?_,fun n x hv hx hk hh=>(fct n hv.1).k5 x hx hk hh,fun n x hv hx=>?_,fun n hv=>?_,fun n hv=>?_⟩,?_,?_⟩
 ·obtain⟨a,b⟩:=inr q _ ho (by simp)
  exact(wo.nB q n a b ho).2.symm
 ·obtain⟨a,b⟩:=inr q _ ho (by simp)
  exact(wo.nD q n a b ho).2.symm
 ·by_cases hq:1≤q∧q < e
  ·exact absurd ho (wo.en q hq.1 hq.2)
  ·have:=out q (by omega)
   rw[ho] at this
   split at this
   ·assumption
   ·cases this
 ·rw[show S.pe+1=e+1 from rfl,out (e+1) (by omega),if_neg (by omega)]
 ·obtain⟨hd,y,hy,hk⟩:=hv
  rw[hx] at hy
  injection hy with hy
  subst hy
  exact(fct n hd).kl x hx hk
 ·obtain⟨hd,y,hy,hk⟩:=hv
  rw[hx] at hy
  injection hy with hy
  subst hy
  exact hk
 ·obtain⟨hd,y,hy,hk⟩:=hv
  exact⟨y,hy⟩
 ·obtain⟨hd,y,hy,hk⟩:=hv
  exact⟨y,hy⟩
 ·exact pl_cf r0 u root 1 e hpl h.rep (.here root) hc
 ·rw[out 0 (by omega),if_neg (by omega)]
theorem br_none {S:Sm} (ok:kV S l is E text):BR S l is (fun _=>False) noB noA 0:=⟨fun _ h=>h.elim,fun _ _ _ _ h=>h.elim,fun _ _ _ _ h=>h.elim,fun _ _ _ _ h=>h.elim,fun _ _ _ _ _ _ h=>h.elim,fun _ _ h=>h.elim,fun _ h=>h,fun _=>⟨fun h=>h,fun h=>h⟩⟩
theorem Stg.law (h:Stg l is E text u root e) (hR:Inside is) {m a:Nat} (ha:a≤text.length) {s':WSt} (hr:Run E l a (.B root a (List.replicate m (-1))) st0 s') (hok:Ok E l (.B root a)) :
  (¬dR is text a 0→s'.out=[])∧(dR is text a 0→∃p' c rest,s'.out=(p',c)::rest∧(jv is 0 m text a true).1=some (c,0)):=by
 obtain⟨S,ok,hcf,h0⟩:=h.sm
 obtain⟨x0,i1,i2,i3,i4⟩:=h.i0
 obtain⟨z,f,hh,g,k,c1,c2,c3,c4,c5,c6⟩:=hcf a
 have c1:FR l (.B root a) (z,f) hh:=c1
 have hst:0 < is.length:=(List.getElem?_eq_some_iff.1 i1).1
 obtain⟨ho1,ho2⟩:=run_first hr hok c1
 have hiff:HtA E l (fun _=>False) z↔dR is text a 0:=by
  rw[he_iff ok (br_none ok) c2 c3 c5,c4]
  constructor
  ·intro hp
   exact hits_iff.1 (.go _ (1,a) (jy x0.arg a) (fun h=>h) (by rw[bV i1,mvI_3 i2,i4];simp) hp)
  ·intro hp
   rcases(hits_iff.2 hp:HtP is text noB (0,a)) with⟨_,_,hm⟩ | ⟨_,r,f',_,hm,hp⟩
   ·obtain⟨y,e1,e2⟩:=hm
    rw[i1] at e1
    injection e1 with e1
    subst e1
    omega
   ·rw[bV i1,mvI_3 i2,i4] at hm
    simp at hm
    rw[hm.1] at hp
    exact hp
 refine⟨fun hn=>ho1 (fun hz=>hn (hiff.1 hz)),fun hp=>?_⟩
 obtain⟨p',c',rest,q1,q2⟩:=ho2 (hiff.2 hp)
 obtain⟨e',w,r1,r2⟩:=run_gd (m:=m) hR hst ha hp
 have hw:=runF_w (text:=text) h.zero (st:=0) (m:=m) (a:=a) (an:=true) _ _ r1
 subst hw
 refine⟨p',_,rest,q1,?_⟩
 have com:=mvA_com (E:=E) h.grp
 have comf:=jB h.grp _ _ _ c1.1
 have g1:=Gd.map_ (g:=fun c=>c.set 0 (a:Int)) (fun q r f hm c=>com q r f hm (a:Int) c) q2
 have g2:GdA E l (fun _=>False) z (f (jy 0 a (List.replicate m (-1)))) (.E p',c'.set 0 (a:Int)):=by
  rw[show f (jy 0 a (List.replicate m (-1)))=(f (List.replicate m (-1))).set 0 (a:Int) from comf (a:Int) _]
  exact g1
 have hbr:BR S l is (fun _=>False) (ins noB (0,a)) (fun y=>y=z) k:=by
  have ne:∀q o',S.own q=some o'→∀p,¬ins noB (0,a) (q,p):=fun q o' ho p hb=>by
   rcases hb with hb | hb
   ·injection hb with e1 e2
    rw[e1,h0] at ho
    cases ho
   ·exact hb
  refine⟨fun _ h=>h.elim,fun q n p ho hb=>(ne q _ ho p hb).elim,fun q n p ho hb=>(ne q _ ho p hb).elim,fun q n p ho hb=>(ne q _ ho p hb).elim,fun q p q' g' k' ho hb hrt y vy ny py ey=>?_,fun _ _ h=>h.elim,fun _ h=>h,fun p=>⟨ne S.pe _ ok.e0 p,fun hb=>?_⟩⟩
  ·rcases hb with hb | hb
   ·injection hb with e1 e2
    subst e1 e2
    right
    have hrt0:Rt S is 0 (pcA S z) (fun p=>g p ∘ jy x0.arg p) (k+1):=.cap 0 x0 _ g k h0 i1 i2 (by rw[i4];exact c5)
    obtain⟨d1,d2⟩:=hrt0.det hrt
    refine⟨pc_inj ok vy ny c2 c3 (by rw[ey,d1]) (by rw[py,c4]),by omega⟩
   ·exact hb.elim
  ·rcases hb with hb | hb
   ·injection hb with e1 e2;omega
   ·exact hb
 have hz:¬HtA E l (fun _=>False) z→False:=fun h=>h (hiff.2 hp)
 have g3:GdP is text (ins noB (0,a)) (1,a) (jy 0 a (List.replicate m (-1))) (eB S (.E p',c'.set 0 (a:Int))):=by
  refine rt_gd (Ba:=fun _=>False) ok c2 c3 c4 (fun h=>h) c5 _ _ hbr rfl (fun Bb' br'=>?_)
  rw[←c4]
  refine(sim ok (by rw[c4,c6];exact g2) c2).1 c3 Bb' ?_
  exact br'
 have g4:GdP is text noB (0,a) (List.replicate m (-1)) (eB S (.E p',c'.set 0 (a:Int))):=by
  refine .go noB (0,a) _ [] (1,a) (jy x0.arg a) [] _ (fun h=>h) (by rw[bV i1,mvI_3 i2,i4];rfl) (fun z hz=>by simp at hz) ?_
  rw[i3]
  exact g3
 have:=r2.eq (isM_mvs) g4
 rw[r1,this]
 rfl
end
end Go.Proofs.Ytnkefclbchpafaa

/-
  What holds of every node of a tree holds of every node of its row. Plain.
-/
namespace Go.Proofs.Ytnkefclbchpafaa
set_option linter.unusedVariables false
structure QOk (Q:PN→Prop):Prop where
 up:∀(y:PN) (u n:Int),Q y→Q { y with up:=u,nth:=n }
 bare:∀(k:Int) (ss:List Nat) (lz:Bool),k≠7→k≠2→k≠3→Q (aX k ss lz)
def jq (Q:PN→Prop) (l:List PN):Prop:=∀(i:Nat) (x:PN),l[i]?=some x→Q x
section
variable {Q : PN → Prop} (hq : QOk Q)
include hq
theorem setUps_allQ (n:Nat):∀(ss:List Nat) (k:Nat) (l:List PN),jq Q l→jq Q (dU l n k ss)
 | [],_,_,h=>h
 | s::ss,k,l,h=>by
  rw[show dU l n k (s::ss)=dU (fK l s n k) n (k+1) ss from rfl]
  refine setUps_allQ n ss (k+1) _ (fun i y hy=>?_)
  rw[setUp_at] at hy
  split at hy
  ·cases hz:l[i]? with
   | none=>rw[hz] at hy;cases hy
   | some z =>
    rw[hz] at hy
    injection hy with hy
    subst hy
    exact hq.up z _ _ (h i z hz)
  ·exact h i y hy
theorem kg {x:PN} {l:List PN} (h:jq Q l) (hx:Q x):jq Q (dA x l).1:=by
 refine setUps_allQ hq _ _ _ _ (fun i y hy=>?_)
 by_cases hi:i < l.length
 ·rw[List.getElem?_append_left hi] at hy
  exact h i y hy
 ·have hi1:i=l.length:=by
   have:=(List.getElem?_eq_some_iff.1 hy).1
   simp at this
   omega
  subst hi1
  simp at hy
  subst hy
  exact hq.up x (-1) x.nth hx
theorem row_allQ {ss:List Nat} {l:List PN} (h:jq Q l):jq Q (iK ss l).1:=by
 match ss with
 | []=>exact kg hq h (hq.bare 1 [] false (by decide) (by decide) (by decide))
 | [a]=>exact h
 | a::b::r=>exact kg hq h (hq.bare 4 _ false (by decide) (by decide) (by decide))
theorem opt_allQ {f:Uf} (lz:Bool) (hk:∀l,jq Q l→jq Q (f l).1):∀k l,jq Q l→jq Q (fZ f lz k l).1
 | 0,l,h=>h
 | 1,l,h=>kg hq (hk l h) (hq.bare 103 _ lz (by decide) (by decide) (by decide))
 | k+2,l,h=>kg hq (row_allQ hq (opt_allQ lz hk (k+1) _ (hk l h))) (hq.bare 103 _ lz (by decide) (by decide) (by decide))
omit hq in
theorem times_allQ {f:Uf} (hk:∀l,jq Q l→jq Q (f l).1):∀n l,jq Q l→jq Q (aF f n l).1
 | 0,l,h=>h
 | n+1,l,h=>times_allQ hk n (f l).1 (hk l h)
theorem rep_allQ {f:Uf} (hk:∀l,jq Q l→jq Q (f l).1) (mn mx:Int) (lz:Bool):∀l,jq Q l→jq Q (iJ f mn mx lz l).1:=fun l h=>by
 unfold iJ
 split
 ·exact kg hq (hk l h) (hq.bare 101 _ lz (by decide) (by decide) (by decide))
 ·simp only
  split
  ·exact row_allQ hq (kg hq (hk _ (times_allQ hk _ l h)) (hq.bare 102 _ lz (by decide) (by decide) (by decide)))
  split
  ·exact row_allQ hq (opt_allQ hq lz hk _ _ (times_allQ hk _ l h))
  ·exact row_allQ hq (times_allQ hk _ l h)
theorem list_allQ:∀(ts:List Tree),(∀x∈ts,∀l,jq Q l→jq Q (bJ x l).1)→∀l,jq Q l→jq Q (bU ts l).1
 | [],_,l,h=>by have _r:=hq;rw[bU];exact h
 | x::r,hs,l,h=>by
  rw[bU]
  exact list_allQ r (fun y hy=>hs y (by simp[hy])) _ (hs x (by simp) l h)
end
end Go.Proofs.Ytnkefclbchpafaa
