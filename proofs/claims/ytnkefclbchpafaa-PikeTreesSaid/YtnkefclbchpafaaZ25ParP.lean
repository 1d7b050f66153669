/-
  EnvX, RunE, ParP, put together.
-/
import Derived.Test.YtnkefclbchpafaaZ24IterU
import Derived.Test.YtnkefclbchpafaaZ06RefRight
import Derived.Test.YtnkefclbchpafaaZ03RunP
import Derived.Test.YtnkefclbchpafaaZ23Lp9

/-
  What a text says at its places, and read backward. Plain.
-/
namespace Go.Proofs.Ytnkefclbchpafaa
set_option linter.unusedVariables false
def envX (xs:List Int):Env:=⟨fun rs p=>dI rs xs p,fun a p=>cZ a (kP xs (p:Int))⟩
theorem envX_cls (xs:List Int):∀rs p,(envX xs).cls rs p=true→p < xs.length:=by
 intro rs p h
 simp only[envX,dI] at h
 cases hx:xs[p]? with
 | none=>rw[hx] at h;cases h
 | some c=>exact(List.getElem?_eq_some_iff.1 hx).1
end Go.Proofs.Ytnkefclbchpafaa

/-
  The walk through a row of nodes comes to an end.
-/
namespace Go.Proofs.Ytnkefclbchpafaa
set_option linter.unusedVariables false
def pairsN (N M:Nat):List (Nat × Nat):=(List.range N).flatMap fun n=>(List.range M).map fun p=>(n,p)
theorem pairsN_mem {N M n p:Nat} (hn:n < N) (hp:p < M):(n,p)∈pairsN N M:=by simp[pairsN,hn,hp]
def cntB (L:List (Nat × Nat)) (b:Nat→Nat→Bool):Nat:=L.countP fun q=>!b q.1 q.2
theorem cntB_le {L:List (Nat × Nat)} {b b':Nat→Nat→Bool} (h:∀n p,b n p=true→b' n p=true):cntB L b'≤cntB L b:=by
 unfold cntB
 refine List.countP_mono_left (fun q _ hq=>?_)
 cases hb:b q.1 q.2 with
 | false=>rfl
 | true=>rw[h _ _ hb] at hq;exact hq
theorem cntB_lt {b b':Nat→Nat→Bool} (h:∀n p,b n p=true→b' n p=true) {n p:Nat} (h0:b n p=false) (h1:b' n p=true):∀(L:List (Nat × Nat)),(n,p)∈L→cntB L b' < cntB L b
 | [],hm=>by simp at hm
 | q::L,hm=>by
  have hle:=cntB_le (L:=L) h
  rcases List.mem_cons.1 hm with rfl | hm
  ·unfold cntB at hle ⊢
   simp[h0,h1]
   omega
  ·have:=cntB_lt h h0 h1 L hm
   unfold cntB at this ⊢
   rw[List.countP_cons,List.countP_cons]
   cases hb:b q.1 q.2 with
   | true=>simp[h _ _ hb];exact this
   | false=>cases hb2:b' q.1 q.2 <;> simp <;> omega
def muS (N M:Nat) (s:WSt):Nat:=cntB (pairsN N M) s.bg+cntB (pairsN N M) s.dc
theorem muS_le {N M:Nat} {s s':WSt} (h:Le s s'):muS N M s'≤muS N M s:=Nat.add_le_add (cntB_le h.b) (cntB_le h.d)
def VCl (E:Env) (l:List PN) (m:Nat):Cl→Prop
 | .B n p _=>Inv E l (fun _=>True) (.B n p)∧p≤m
 | .K n p _=>Inv E l (fun _=>True) (.B n p)∧p≤m
 | .A ms p _=>(∀n∈ms,Inv E l (fun _=>True) (.B n p))∧p≤m
 | .C n p _=>(∃x,l[n]?=some x∧x.subs≠[])∧(∀c∈succs E l (.D n p),Inv E l (fun _=>True) c)∧p≤m
 | .D n p _=>Inv E l (fun _=>True) (.D n p)∧p≤m
 | .H n p _=>Inv E l (fun _=>True) (.H n p)∧p≤m
theorem Rep.has {l:List PN} {u:UT} {n:Nat} (h:Rep l u n):∃x,l[n]?=some x:=by
 cases h <;> exact⟨_,by assumption⟩
theorem run_all {E:Env} {l:List PN} {at_ m:Nat} (hE:∀rs p,E.cls rs p=true→p < m):∀(M:Nat) (s:WSt),muS l.length (m+1) s≤M→∀k,VCl E l m k→∃s',Run E l at_ k s s':=by
 intro M
 induction M using Nat.strongRecOn with
 | _ M ih =>
  have hB:∀(s:WSt),muS l.length (m+1) s≤M→∀n p c,VCl E l m (.B n p c)→∃s',Run E l at_ (.B n p c) s s':=by
   intro s hs n p c hv
   cases hb:s.bg n p with
   | true=>exact⟨s,.Bmet n p c s hb⟩
   | false =>
    have hlt:n < l.length:=by
     obtain⟨⟨u,c',hr,-⟩,-⟩:=hv
     obtain⟨x,hx⟩:=hr.has
     exact(List.getElem?_eq_some_iff.1 hx).1
    have h1:muS l.length (m+1) { s with bg:=bT s.bg n p } < muS l.length (m+1) s:=by
     unfold muS
     have:=cntB_lt (b:=s.bg) (b':=bT s.bg n p) (fun _ _ h=>mark2_le h) hb (iV _ _ _) (pairsN l.length (m+1)) (pairsN_mem hlt (by have:=hv.2;omega))
     simp only
     omega
    obtain⟨s',h⟩:=ih _ (by omega) { s with bg:=bT s.bg n p } (Nat.le_refl _) (.K n p c) hv
    exact⟨s',.Bgo n p c s s' hb h⟩
  have hD:∀(s:WSt),muS l.length (m+1) s≤M→∀n p c,VCl E l m (.D n p c)→∃s',Run E l at_ (.D n p c) s s':=by
   intro s hs n p c hv
   cases hb:s.dc n p with
   | true=>exact⟨s,.Dmet n p c s hb⟩
   | false =>
    obtain⟨⟨u,s0,c',x,hx,hk,hs0,hr⟩,hp⟩:=id hv
    have hlt:n < l.length:=(List.getElem?_eq_some_iff.1 hx).1
    have h1:muS l.length (m+1) { s with dc:=bT s.dc n p } < muS l.length (m+1) s:=by
     unfold muS
     have:=cntB_lt (b:=s.dc) (b':=bT s.dc n p) (fun _ _ h=>mark2_le h) hb (iV _ _ _) (pairsN l.length (m+1)) (pairsN_mem hlt (by omega))
     simp only
     omega
    obtain⟨s',h⟩:=ih _ (by omega) { s with dc:=bT s.dc n p } (Nat.le_refl _) (.C n p c) ⟨⟨x,hx,by rw[hs0];simp⟩,fun q hq=>bL hv.1 hq,hp⟩
    exact⟨s',.Dgo n p c s s' hb h⟩
  have hH:∀(k:Ctx) (s:WSt),muS l.length (m+1) s≤M→∀n p c,RepC l k n→p≤m→∃s',Run E l at_ (.H n p c) s s':=by
   intro k
   induction k with
   | top =>
    intro s hs n p c hc hp
    cases hc with
    | top _ x hx hu =>
     cases he:s.en p with
     | true=>exact⟨s,.Hmet n p c s x hx hu he⟩
     | false=>exact⟨_,.Hend n p c s x hx hu he⟩
   | seq us k ihk =>
    intro s hs n p c hc hp
    have hI:Inv E l (fun _=>True) (.H n p):=⟨_,hc,fun _ _=>trivial⟩
    cases hc with
    | seq _ x q y _ ss _ i hx hu hn hm hk hd hr hc =>
     by_cases hlt:x.nth.toNat+1 < y.subs.length
     ·have hI2:=bL hI (b:=.B (y.subs.getD (x.nth.toNat+1) 0) p) (by rw[fQ hx hu hm,if_pos hk,if_pos hlt];simp only[List.mem_singleton])
      obtain⟨s',h⟩:=hB s hs _ p c ⟨hI2,hp⟩
      exact⟨s',.H4 n p c s s' x q y hx hu hm hk hlt h⟩
     ·obtain⟨s',h⟩:=ihk s hs q p c hc hp
      exact⟨s',.H4e n p c s s' x q y hx hu hm hk hlt h⟩
   | one k ihk =>
    intro s hs n p c hc hp
    cases hc with
    | one _ x q y _ hx hu hm hk hc =>
     rcases hk with hk | hk | hk
     ·obtain⟨s',h⟩:=ihk s hs q p c hc hp
      exact⟨s',.Ho n p c s s' x q y hx hu hm (.inl hk) h⟩
     ·obtain⟨s',h⟩:=ihk s hs q p (c.set (2*y.ix+1).toNat p) hc hp
      exact⟨s',.H7 n p c s s' x q y hx hu hm hk h⟩
     ·obtain⟨s',h⟩:=ihk s hs q p c hc hp
      exact⟨s',.Ho n p c s s' x q y hx hu hm (.inr hk) h⟩
   | loop u k ihk =>
    intro s hs n p c hc hp
    have hI:Inv E l (fun _=>True) (.H n p):=⟨_,hc,fun _ _=>trivial⟩
    cases hc with
    | loop _ x q y _ _ hx hu hm hk hs0 hr hc =>
     have hI2:=bL hI (b:=.D q p) (by rw[fQ hx hu hm,if_neg (by omega),if_neg (by omega),if_pos hk];simp only[List.mem_singleton])
     obtain⟨s',h⟩:=hD s hs q p c ⟨hI2,hp⟩
     exact⟨s',.Hl n p c s s' x q y hx hu hm hk h⟩
  have hH':∀(s:WSt),muS l.length (m+1) s≤M→∀n p c,Inv E l (fun _=>True) (.H n p)→p≤m→∃s',Run E l at_ (.H n p c) s s':=fun s hs n p c ⟨k,hk,_⟩ hp=>hH k s hs n p c hk hp
  have hA:∀(ms:List Nat) (s:WSt),muS l.length (m+1) s≤M→∀p c,VCl E l m (.A ms p c)→∃s',Run E l at_ (.A ms p c) s s':=by
   intro ms
   induction ms with
   | nil=>exact fun s hs p c hv=>⟨s,.A0 p c s⟩
   | cons q r ihr =>
    intro s hs p c hv
    obtain⟨s1,h1⟩:=hB s hs q p c ⟨hv.1 q (by simp),hv.2⟩
    obtain⟨s2,h2⟩:=ihr s1 (Nat.le_trans (muS_le (run_post (R0:=.E 0) h1).le) hs) p c ⟨fun n hn=>hv.1 n (by simp[hn]),hv.2⟩
    exact⟨s2,.A1 q r p c s s1 s2 h1 h2⟩
  have hC:∀(s:WSt),muS l.length (m+1) s≤M→∀n p c,VCl E l m (.C n p c)→∃s',Run E l at_ (.C n p c) s s':=by
   intro s hs n p c ⟨⟨x,hx,h0⟩,hI,hp⟩
   have e:succs E l (.D n p)=[.B (aR x) p,.H n p]:=by simp[succs,hx]
   have i1:=hI (.B (aR x) p) (by rw[e];simp)
   have i2:=hI (.H n p) (by rw[e];simp)
   cases hz:x.lz with
   | true =>
    obtain⟨s1,h1⟩:=hH' s hs n p c i2 hp
    obtain⟨s2,h2⟩:=hB s1 (Nat.le_trans (muS_le (run_post (R0:=.E 0) h1).le) hs) (aR x) p c ⟨i1,hp⟩
    exact⟨s2,.Cy n p c s s1 s2 x hx h0 hz h1 h2⟩
   | false =>
    obtain⟨s1,h1⟩:=hB s hs (aR x) p c ⟨i1,hp⟩
    obtain⟨s2,h2⟩:=hH' s1 (Nat.le_trans (muS_le (run_post (R0:=.E 0) h1).le) hs) n p c i2 hp
    exact⟨s2,.Cn n p c s s1 s2 x hx h0 hz h1 h2⟩
  have one:∀ {n q:Nat} {u:UT} {x:PN},dW l [u] n 0 x.subs→x.subs≠[]:=fun h h0=>by
   obtain⟨s,y,e,-⟩:=h.one
   rw[h0] at e
   cases e
  intro s hs k hv
  cases k with
  | B n p c=>exact hB s hs n p c hv
  | D n p c=>exact hD s hs n p c hv
  | H n p c=>exact hH' s hs n p c hv.1 hv.2
  | A ms p c=>exact hA ms s hs p c hv
  | C n p c=>exact hC s hs n p c hv
  | K n p c =>
   obtain⟨hI,hp⟩:=hv
   obtain⟨u,k,hr,hc,-⟩:=id hI
   cases hr with
   | eps _ x hx hk =>
    obtain⟨s',h⟩:=hH' s hs n p c (bL hI (by simp[succs,hx,hk])) hp
    exact⟨s',.K1 n p c s s' x hx hk h⟩
   | cls _ x hx hk =>
    cases he:E.cls x.rs p with
    | true =>
     obtain⟨s',h⟩:=hH' s hs n (p+1) c (bL hI (by simp[succs,hx,hk,he])) (by have:=hE _ _ he;omega)
     exact⟨s',.K2y n p c s s' x hx hk he h⟩
    | false=>exact⟨s,.K2n n p c s x hx hk he⟩
   | asr _ x hx hk =>
    cases he:E.asr x.asr p with
    | true =>
     obtain⟨s',h⟩:=hH' s hs n p c (bL hI (by simp[succs,hx,hk,he])) hp
     exact⟨s',.K3y n p c s s' x hx hk he h⟩
    | false=>exact⟨s,.K3n n p c s x hx hk he⟩
   | cat _ x us hx hk h0 hrs =>
    obtain⟨s',h⟩:=hB s hs (aR x) p c ⟨bL hI (by simp[succs,hx,hk]),hp⟩
    exact⟨s',.K4 n p c s s' x hx (.inl hk) h0 h⟩
   | alt _ x us hx hk hrs =>
    obtain⟨s',h⟩:=hA x.subs s hs p c ⟨fun q hq=>bL hI (by simp[succs,hx,hk,hq]),hp⟩
    exact⟨s',.K5 n p c s s' x hx hk h⟩
   | grp _ x u hx hk hrs =>
    obtain⟨s',h⟩:=hB s hs (aR x) p (c.set (2*x.ix).toNat p) ⟨bL hI (by simp[succs,hx,hk]),hp⟩
    exact⟨s',.K7 n p c s s' x hx hk (one hrs (q:=0)) h⟩
   | star _ x u hx hk hrs =>
    obtain⟨s',h⟩:=hD s hs n p c ⟨bL hI (by simp[succs,hx,hk]),hp⟩
    exact⟨s',.Ks n p c s s' x hx hk h⟩
   | plus _ x u hx hk hrs =>
    obtain⟨s',h⟩:=hB s hs (aR x) p c ⟨bL hI (by simp[succs,hx,hk]),hp⟩
    exact⟨s',.K4 n p c s s' x hx (.inr hk) (one hrs (q:=0)) h⟩
   | quest _ x u hx hk hrs =>
    have e:succs E l (.B n p)=succs E l (.D n p):=by simp[succs,hx,hk]
    obtain⟨s',h⟩:=hC s hs n p c ⟨⟨x,hx,one hrs (q:=0)⟩,fun q hq=>bL hI (by rw[e];exact hq),hp⟩
    exact⟨s',.Kq n p c s s' x hx hk h⟩
theorem run_ex {E:Env} {l:List PN} {at_ m:Nat} (hE:∀rs p,E.cls rs p=true→p < m) {u:UT} {n p:Nat} {x:PN} (hr:Rep l u n) (hx:l[n]?=some x) (hu:x.up < 0) (hp:p≤m) (c:List Int) (s:WSt):∃s',Run E l at_ (.B n p c) s s' :=
 run_all hE _ s (Nat.le_refl _) (.B n p c) ⟨⟨u,.top,hr,.top n x hx hu,fun _ _ _ _=>trivial⟩,hp⟩
end Go.Proofs.Ytnkefclbchpafaa

/-
  What gY.Parses needs of a tree that may be, and what comes of it. Plain, but for heronref05.Sound's two contracts in one.
-/
namespace Go.Proofs.Ytnkefclbchpafaa
open Go.RowKit
set_option linter.unusedVariables false
theorem grtL_bnd:∀(l:List Tree) (n:Int),0≤n→n≤500→(∀x∈l,0≤dF x∧dF x≤500)→0≤grtL n l∧grtL n l≤500
 | [],n,h0,h1,_=>by rw[grtL];exact⟨h0,h1⟩
 | t::l,n,h0,h1,hs=>by
  rw[grtL]
  have:=hs t (by simp)
  exact grtL_bnd l _ (by omega) (by omega) (fun x hx=>hs x (by simp[hx]))
theorem grt_bnd:∀(n:Nat) (t:Tree) (d:Int),SizeOf.sizeOf t≤n→OkF t d→0≤dF t∧dF t≤500
 | 0,t,_,h,_=>absurd h (dw t)
 | n+1,t,d,hn,ho=>by
  obtain⟨h1,h2,h3⟩:=ho.top
  have hi:=nodeF_ix h1
  rw[grtT_eq]
  refine grtL_bnd _ _ hi.1 hi.2 (fun x hx=>?_)
  obtain⟨i,hi⟩:=List.mem_iff_getElem?.1 hx
  exact grt_bnd n x (d+1) (by have:=Tree.sub_lt hx;omega) (h3 i x hi)
theorem okG_of:∀(n:Nat) (t:Tree) (d:Int),SizeOf.sizeOf t≤n→OkF t d→cntT t≤200000→OkG t
 | 0,t,_,h,_,_=>absurd h (dw t)
 | n+1,t,d,hn,ho,hc=>by
  obtain⟨h1,h2,h3⟩:=ho.top
  have hi:=nodeF_ix h1
  have hct:=cntT_eq t
  have hl:=cntL_len t.subs
  rw[OkG]
  refine⟨⟨fun _=>hi.1,by omega⟩,fun i hi=>?_⟩
  have hx:=List.getElem?_eq_getElem hi
  have:=cntL_mem hx
  exact okG_of n _ (d+1) (by have:=Tree.sub_lt (List.getElem_mem hi);omega) (h3 i _ hx) (by omega)
structure kL (t:Tree):Prop where
 u:OkU t
 v:OkV t
 g0:0≤dF t
 g1:dF t≤500
 len:(bJ t []).1.length≤4000
 all:AllG (dF t) (bJ t []).1
 good:GoodAt [] (bJ t []) (jS t)
theorem tab_ok {t:Tree} (h:d9 t) (hz:szT t≤2000):kL t:=by
 have hu:=okU_of _ t 1 (Nat.le_refl _) h.1
 have hv:=okV_of _ t 1 (Nat.le_refl _) h.1
 have hg:=grt_bnd _ t 1 (Nat.le_refl _) h.1
 have hG:=okG_of _ t 1 (Nat.le_refl _) h.1 h.2
 have hl:=(unf_le _ t (Nat.le_refl _) hu hv).2 (by omega) []
 simp only[List.length_nil] at hl
 exact⟨hu,hv,hg.1,hg.2,by omega,unf_all _ t (Nat.le_refl _) hu hv (okI_of _ t (dF t) (Nat.le_refl _) hG (Int.le_refl _)) [] (fun i x hx=>by simp at hx),jR t hu []⟩
theorem kL.lt {t:Tree} (h:kL t):(bJ t []).2 < (bJ t []).1.length:=by
 obtain⟨x,hx,-⟩:=h.good.root
 exact(List.getElem?_eq_some_iff.1 hx).1
theorem par_run {t:Tree} (h:kL t) (xs:List Int) {a:Nat} (ha:a≤xs.length) (at_:Nat) (c:List Int):∃s',Run (envX xs) (bJ t []).1 at_ (.B (bJ t []).2 a c) st0 s':=by
 obtain⟨x,hx,hu⟩:=h.good.root
 exact run_ex (envX_cls xs) h.good.rep hx hu ha c st0
end Go.Proofs.Ytnkefclbchpafaa
