/-
  PkT, PkC, Lay9, put together.
-/
import Derived.Test.YtnkefclbchpafaaZ25ParP
import Derived.Test.YtnkefclbchpafaaZ26TabQ
import Derived.Test.YtnkefclbchpafaaZ24IterU
import Derived.Deep.RegionHeld3
import Derived.Deep.AppendLies

/-
  The program of a tree that may be: the stage's law for it. Plain.
-/
namespace Go.Proofs.Ytnkefclbchpafaa
set_option linter.unusedVariables false
def bZ (s:Tree):List av:=aT 3 0 1 0 []::(bG s 1++[aT 3 1 (aL s+2) 0 [],aT 5 0 0 0 []])
theorem progT_has (s:Tree):Has_ (bZ s) 1 (bG s 1):=fun i x hi=>by
 have hl:=(List.getElem?_eq_some_iff.1 hi).1
 rw[bZ,show 1+i=i+1 by omega,List.getElem?_cons_succ,List.getElem?_append_left hl]
 exact hi
theorem progT_end (s:Tree):(bZ s)[1+aL s]?=some (aT 3 1 (aL s+2) 0 [])∧(bZ s)[1+aL s+1]?=some (aT 5 0 0 0 []):=by
 have hl:=bY s 1
 constructor
 ·rw[bZ,show 1+aL s=aL s+1 by omega,List.getElem?_cons_succ,List.getElem?_append_right (by omega),hl,Nat.sub_self]
  rfl
 ·rw[bZ,show 1+aL s+1=(aL s+1)+1 by omega,List.getElem?_cons_succ,List.getElem?_append_right (by omega),hl,show aL s+1 - aL s=1 by omega]
  rfl
def NoM (c:List av):Prop:=∀x∈c,x.op≠5
theorem gJ {x:av} {c:List av} (h:x.op≠5) (g:NoM c):NoM (x::c):=fun y hy=>by
 rcases List.mem_cons.1 hy with rfl | hy
 ·exact h
 ·exact g y hy
theorem noM_app {c d:List av} (h:NoM c) (g:NoM d):NoM (c++d):=fun y hy=>by
 rcases List.mem_append.1 hy with hy | hy
 ·exact h y hy
 ·exact g y hy
theorem jh:NoM []:=fun y hy=>by simp at hy
theorem noM_loop (b e:Int) (lz:Bool):(iB b e lz).op≠5:=by rw[(loopI_at b e lz).1];decide
theorem noM_i {op a x y:Int} {rs:List (Int × Int)} (h:op≠5):(aT op a x y rs).op≠5:=h
mutual
theorem layT_noM:∀(t:Tree) (b:Nat),NoM (bG t b)
 | .mk k rs am subs mn mx lz ix nm,b=>by
  rw[bG]
  split
  ·split
   ·exact gJ (noM_i (by decide)) jh
   ·exact gJ (noM_i (by decide)) jh
  split
  ·exact gJ (noM_i (by decide)) jh
  split
  ·exact gJ (noM_i (by decide)) (noM_app (layTH_noM subs _) (gJ (noM_i (by decide)) jh))
  split
  ·exact layTL_noM subs b
  split
  ·exact layTA_noM subs b _
  split
  ·split
   ·exact noM_app (layTH_noM subs _) (gJ (noM_loop _ _ _) jh)
   ·split
    ·exact gJ (noM_loop _ _ _) (noM_app (layTH_noM subs _) (gJ (noM_i (by decide)) jh))
    ·exact gJ (noM_loop _ _ _) (layTH_noM subs _)
  ·exact jh
theorem layTL_noM:∀(l:List Tree) (b:Nat),NoM (dO l b)
 | [],b=>by rw[dO];exact jh
 | t::l,b=>by rw[dO];exact noM_app (layT_noM t b) (layTL_noM l _)
theorem layTA_noM:∀(l:List Tree) (b e:Nat),NoM (gV l b e)
 | [],b,e=>by rw[gV];exact jh
 | [t],b,e=>by rw[gV];exact layT_noM t b
 | t::u::l,b,e=>by
  rw[gV]
  exact gJ (noM_i (by decide)) (noM_app (layT_noM t _) (gJ (noM_i (by decide)) (layTA_noM (u::l) _ e)))
theorem layTH_noM:∀(l:List Tree) (b:Nat),NoM (iG l b)
 | [],b=>by rw[iG];exact jh
 | t::_,b=>by rw[iG];exact layT_noM t b
end
theorem progT_zero (s:Tree) (i:Nat) (x:av) (h:(bZ s)[i]?=some x) (h5:x.op=5):x.arg=0:=by
 have hm:=List.mem_of_getElem? h
 rw[bZ] at hm
 rcases List.mem_cons.1 hm with rfl | hm
 ·rfl
 rcases List.mem_append.1 hm with hm | hm
 ·exact absurd h5 (layT_noM s 1 x hm)
 ·rcases List.mem_cons.1 hm with rfl | hm
  ·exact absurd h5 (by show ¬(3:Int)=5;decide)
  ·obtain rfl:x=aT 5 0 0 0 []:=by simpa using hm
   rfl
theorem grS_ok:QOk (fun x=>x.kind=7→1≤x.ix):=⟨fun y u n h=>h,fun k ss lz h _ _ e=>absurd e h⟩
theorem unf_grS (n:Nat):∀(t:Tree) (d:Int),SizeOf.sizeOf t≤n→OkF t d→∀l,jq (fun x=>x.kind=7→1≤x.ix) l→jq (fun x=>x.kind=7→1≤x.ix) (bJ t l).1:=by
 induction n with
 | zero=>exact fun t d h=>absurd h (dw t)
 | succ n ih =>
 intro t d hn ho l h
 obtain⟨h1,h2,h3⟩:=ho.top
 have q:=nodeK h1
 have hsub:∀x∈t.subs,∀l,jq (fun x=>x.kind=7→1≤x.ix) l→jq (fun x=>x.kind=7→1≤x.ix) (bJ x l).1:=fun x hx=>by
  obtain⟨i,hi⟩:=List.mem_iff_getElem?.1 hx
  exact ih x (d+1) (by have:=Tree.sub_lt hx;omega) (h3 i x hi)
 by_cases hk6:t.kind=6
 ·have hpos:0 < t.subs.length:=by
   have:=q.one (.inl hk6)
   omega
  obtain⟨x,hx⟩:∃x,t.subs[0]?=some x:=⟨_,List.getElem?_eq_getElem hpos⟩
  rw[unfT_6 hk6 hx]
  exact rep_allQ grS_ok (hsub x (List.mem_of_getElem? hx)) _ _ _ l h
 ·rw[unfT_n hk6]
  exact kg grS_ok (list_allQ grS_ok t.subs hsub l h) (fun e=>(q.grp e).1)
def envP (xs:List Int):Env:=⟨fun rs p=>dI rs xs p,fun a p=>cZ a (part xs p 6)⟩
theorem env_same (xs:List Int) (a:Int) {p:Nat} (hp:p≤xs.length):(envX xs).asr a p=(envP xs).asr a p:=by
 show cZ a (kP xs (p:Int))=cZ a (part xs p 6)
 rw[kP,if_pos (by omega)]
 rfl
def plCl:Cl→Nat
 | .B _ p _=>p
 | .K _ p _=>p
 | .A _ p _=>p
 | .C _ p _=>p
 | .D _ p _=>p
 | .H _ p _=>p
theorem run_env {xs:List Int} {l:List PN} {at_:Nat} {c:Cl} {s s':WSt} (h:Run (envX xs) l at_ c s s'):plCl c≤xs.length→Run (envP xs) l at_ c s s':=by
 induction h with
 | Bmet n p c s h1=>exact fun _=>.Bmet n p c s h1
 | Bgo n p c s s' h1 _ ih=>exact fun hp=>.Bgo n p c s s' h1 (ih hp)
 | K1 n p c s s' x h1 h2 _ ih=>exact fun hp=>.K1 n p c s s' x h1 h2 (ih hp)
 | K2y n p c s s' x h1 h2 h3 _ ih=>exact fun hp=>.K2y n p c s s' x h1 h2 h3 (ih (by have:=envX_cls xs x.rs p h3;show p+1≤_;omega))
 | K2n n p c s x h1 h2 h3=>exact fun hp=>.K2n n p c s x h1 h2 h3
 | K3y n p c s s' x h1 h2 h3 _ ih=>exact fun hp=>.K3y n p c s s' x h1 h2 (by rw[←env_same xs x.asr (p:=p) hp];exact h3) (ih hp)
 | K3n n p c s x h1 h2 h3=>exact fun hp=>.K3n n p c s x h1 h2 (by rw[←env_same xs x.asr (p:=p) hp];exact h3)
 | K4 n p c s s' x h1 h2 h3 _ ih=>exact fun hp=>.K4 n p c s s' x h1 h2 h3 (ih hp)
 | K5 n p c s s' x h1 h2 _ ih=>exact fun hp=>.K5 n p c s s' x h1 h2 (ih hp)
 | K7 n p c s s' x h1 h2 h3 _ ih=>exact fun hp=>.K7 n p c s s' x h1 h2 h3 (ih hp)
 | Kq n p c s s' x h1 h2 _ ih=>exact fun hp=>.Kq n p c s s' x h1 h2 (ih hp)
 | Ks n p c s s' x h1 h2 _ ih=>exact fun hp=>.Ks n p c s s' x h1 h2 (ih hp)
 | A0 p c s=>exact fun _=>.A0 p c s
 | A1 m r p c s s1 s2 _ _ ih1 ih2=>exact fun hp=>.A1 m r p c s s1 s2 (ih1 hp) (ih2 hp)
 | Cy n p c s s1 s2 x h1 h2 h3 _ _ ih1 ih2=>exact fun hp=>.Cy n p c s s1 s2 x h1 h2 h3 (ih1 hp) (ih2 hp)
 | Cn n p c s s1 s2 x h1 h2 h3 _ _ ih1 ih2=>exact fun hp=>.Cn n p c s s1 s2 x h1 h2 h3 (ih1 hp) (ih2 hp)
 | Dmet n p c s h1=>exact fun _=>.Dmet n p c s h1
 | Dgo n p c s s' h1 _ ih=>exact fun hp=>.Dgo n p c s s' h1 (ih hp)
 | Hmet n p c s x h1 h2 h3=>exact fun _=>.Hmet n p c s x h1 h2 h3
 | Hend n p c s x h1 h2 h3=>exact fun _=>.Hend n p c s x h1 h2 h3
 | H4 n p c s s' x m y h1 h2 h3 h4 h5 _ ih=>exact fun hp=>.H4 n p c s s' x m y h1 h2 h3 h4 h5 (ih hp)
 | H4e n p c s s' x m y h1 h2 h3 h4 h5 _ ih=>exact fun hp=>.H4e n p c s s' x m y h1 h2 h3 h4 h5 (ih hp)
 | H7 n p c s s' x m y h1 h2 h3 h4 _ ih=>exact fun hp=>.H7 n p c s s' x m y h1 h2 h3 h4 (ih hp)
 | Hl n p c s s' x m y h1 h2 h3 h4 _ ih=>exact fun hp=>.Hl n p c s s' x m y h1 h2 h3 h4 (ih hp)
 | Ho n p c s s' x m y h1 h2 h3 h4 _ ih=>exact fun hp=>.Ho n p c s s' x m y h1 h2 h3 h4 (ih hp)
theorem stg_of {t:Tree} (h:d9 t) (ht:kL t) (xs:List Int):Stg (bJ t []).1 (bZ (aH t)) (envP xs) xs (jS t) (bJ t []).2 (1+aL (aH t)):=by
 obtain⟨p1,p2⟩:=progT_end (aH t)
 exact⟨unf_allS _ t (Nat.le_refl _) ht.u ht.v [] (fun i x hx=>by simp at hx),ht.good.rep,ht.good.root,(form_ws _ t (Nat.le_refl _) (okS_of _ t 1 (Nat.le_refl _) h.1)).ly _ 1 (progT_has _),⟨_,rfl,rfl,rfl,rfl⟩,⟨_,p1,rfl,rfl,by show((aL (aH t):Int)+2).toNat=_;omega⟩,⟨_,p2,rfl⟩,fun rs p=>rfl,fun a p=>rfl,unf_grS _ t 1 (Nat.le_refl _) h.1 [] (fun i x hx=>by simp at hx),progT_zero _⟩
theorem tree_law {t:Tree} (h:d9 t) (ht:kL t) (xs:List Int) (hR:Inside (bZ (aH t))) {m a:Nat} (ha:a≤xs.length) {s':WSt} (hr:Run (envX xs) (bJ t []).1 a (.B (bJ t []).2 a (List.replicate m (-1))) st0 s') :
  (¬dR (bZ (aH t)) xs a 0→s'.out=[])∧(dR (bZ (aH t)) xs a 0→∃p' c rest,s'.out=(p',c)::rest∧(jv (bZ (aH t)) 0 m xs a true).1=some (c,0)):=by
 obtain⟨x,hx,hu⟩:=ht.good.root
 exact(stg_of h ht xs).law hR ha (run_env hr ha) ⟨jS t,.top,ht.good.rep,.top _ x hx hu,fun _ _ _ _=>trivial⟩
end Go.Proofs.Ytnkefclbchpafaa

/-
  The program of a tree that may be is one that may be. Plain.
-/
namespace Go.Proofs.Ytnkefclbchpafaa
set_option linter.unusedVariables false
inductive OkN (G:Int):Tree→Prop
 | mk (t:Tree):(t.kind=2→bq t.rs=true)→(t.kind=3→jY t.am=true)→(t.kind=7→0≤t.ix∧t.ix≤G)→(∀x∈t.subs,OkN G x)→OkN G t
theorem OkN.top {G:Int} {t:Tree} (h:OkN G t):(t.kind=2→bq t.rs=true)∧(t.kind=3→jY t.am=true)∧(t.kind=7→0≤t.ix∧t.ix≤G)∧(∀x∈t.subs,OkN G x):=by
 cases h with
 | mk _ a b c d=>exact⟨a,b,c,d⟩
theorem okN_bare {G:Int} {t:Tree} (h:t.kind≠2∧t.kind≠3∧t.kind≠7) (hs:∀x∈t.subs,OkN G x):OkN G t:=.mk t (fun e=>absurd e h.1) (fun e=>absurd e h.2.1) (fun e=>absurd e h.2.2) hs
theorem okN_empty {G:Int}:OkN G aV:=okN_bare ⟨by simp[Tree.kind,aV],by simp[Tree.kind,aV],by simp[Tree.kind,aV]⟩ (fun x hx=>by simp[Tree.subs,aV] at hx)
theorem okN_loop {G:Int} {y:Tree} (h:OkN G y) (mn mx:Int) (lz:Bool):OkN G (aY y mn mx lz):=okN_bare ⟨by simp[Tree.kind,aY],by simp[Tree.kind,aY],by simp[Tree.kind,aY]⟩ (fun x hx=>by
 obtain rfl:x=y:=by simpa [Tree.subs,aY] using hx
 exact h)
theorem okN_flatJ {G:Int}:∀(l:List Tree),(∀x∈l,OkN G x)→∀x∈aZ l,OkN G x
 | [],_,x,hx=>by simp[aZ] at hx
 | t::l,h,x,hx=>by
  rw[aZ] at hx
  rcases List.mem_append.1 hx with hx | hx
  ·split at hx
   ·simp at hx
   split at hx
   ·exact(h t (by simp)).top.2.2.2 x hx
   ·obtain rfl:x=t:=by simpa using hx
    exact h x (by simp)
  ·exact okN_flatJ l (fun y hy=>h y (by simp[hy])) x hx
theorem okN_join {G:Int} {l:List Tree} (h:∀x∈l,OkN G x):OkN G (bR l):=by
 have hf:=okN_flatJ l h
 unfold bR
 split
 ·exact okN_empty
 ·rename_i t ht
  exact hf t (by rw[ht];simp)
 ·exact okN_bare ⟨by simp[Tree.kind,fH],by simp[Tree.kind,fH],by simp[Tree.kind,fH]⟩ hf
theorem okN_flatA {G:Int}:∀(l:List Tree),(∀x∈l,OkN G x)→∀x∈cK l,OkN G x
 | [],_,x,hx=>by simp[cK] at hx
 | t::l,h,x,hx=>by
  rw[cK] at hx
  rcases List.mem_append.1 hx with hx | hx
  ·split at hx
   ·exact(h t (by simp)).top.2.2.2 x hx
   ·obtain rfl:x=t:=by simpa using hx
    exact h x (by simp)
  ·exact okN_flatA l (fun y hy=>h y (by simp[hy])) x hx
theorem okN_alt {G:Int} {l:List Tree} (h:∀x∈l,OkN G x):OkN G (eY (cK l)):=okN_bare ⟨by simp[Tree.kind,eY],by simp[Tree.kind,eY],by simp[Tree.kind,eY]⟩ (okN_flatA l h)
theorem okN_opt {G:Int} {y:Tree} (h:OkN G y) (lz:Bool):∀k,OkN G (jD y lz k)
 | 0=>okN_empty
 | 1=>okN_loop h 0 1 lz
 | k+2=>okN_loop (okN_join (fun x hx=>by
  rcases List.mem_cons.1 hx with rfl | hx
  ·exact h
  ·obtain rfl:x=jD y lz (k+1):=by simpa using hx
   exact okN_opt h lz (k+1))) 0 1 lz
theorem okN_rep {G:Int} {y z:Tree} (h:OkN G y) (hz:OkN G z) (n:Nat):∀x∈List.replicate n y++[z],OkN G x:=fun x hx=>by
 rcases List.mem_append.1 hx with hx | hx
 ·rw[(List.mem_replicate.1 hx).2];exact h
 ·obtain rfl:x=z:=by simpa using hx
  exact hz
theorem okN_unf {G:Int} {y:Tree} (h:OkN G y) (mn mx:Int) (lz:Bool):OkN G (kD y mn mx lz):=by
 unfold kD
 split
 ·exact okN_empty
 split
 ·exact okN_join (okN_rep h (okN_loop h _ _ _) _)
 ·exact okN_join (okN_rep h (okN_opt h lz _) _)
theorem okN_list {G:Int}:∀(l:List Tree),(∀x∈l,OkN G (aH x))→∀x∈aU l,OkN G x
 | [],_,x,hx=>by rw[aU] at hx;simp at hx
 | t::l,h,x,hx=>by
  rw[aU] at hx
  rcases List.mem_cons.1 hx with rfl | hx
  ·exact h t (by simp)
  ·exact okN_list l (fun y hy=>h y (by simp[hy])) x hx
theorem okN_head {G:Int} (l:List Tree) (h:∀x∈l,OkN G (aH x)):OkN G (eu l):=by
 cases l with
 | nil=>rw[eu];exact okN_empty
 | cons t l=>rw[eu];exact h t (by simp)
theorem okN_form {G:Int} (n:Nat):∀(t:Tree),SizeOf.sizeOf t≤n→OkN G t→OkN G (aH t):=by
 induction n with
 | zero=>exact fun t h=>absurd h (dw t)
 | succ n ih =>
 intro t hn ho
 obtain⟨a,b,c,d⟩:=ho.top
 have hsub:∀x∈t.subs,OkN G (aH x):=fun x hx=>ih x (by have:=Tree.sub_lt hx;omega) (d x hx)
 obtain⟨k,rs,am,subs,mn,mx,lz,ix,nm⟩:=t
 have hsub:∀x∈subs,OkN G (aH x):=hsub
 rw[aH]
 split
 ·rename_i k7
  exact .mk _ (fun e=>absurd (show k=2 from e) (by omega)) (fun e=>absurd (show k=3 from e) (by omega)) c (fun x hx=>by
   obtain rfl:x=eu subs:=by simpa [Tree.subs] using hx
   exact okN_head subs hsub)
 split
 ·exact okN_join (okN_list subs hsub)
 split
 ·exact okN_alt (okN_list subs hsub)
 split
 ·exact okN_unf (okN_head subs hsub) mn mx lz
 ·exact ho
theorem okN_of:∀(n:Nat) (t:Tree) (d:Int),SizeOf.sizeOf t≤n→OkF t d→∀G,dF t≤G→OkN G t
 | 0,t,d,h,_,_,_=>absurd h (dw t)
 | n+1,t,d,hn,h,G,hg=>by
  obtain⟨h1,h2,h3⟩:=h.top
  have q:=nodeK h1
  obtain⟨g1,g2⟩:=grt_top t
  refine .mk t q.cls (fun e=>?_) (fun e=>by have:=q.grp e;omega) (fun x hx=>?_)
  ·have:=q.asr e
   unfold asB at this
   unfold jY
   simpa using this
  ·obtain⟨i,hi⟩:=List.mem_iff_getElem?.1 hx
   have:=g2 x hx
   exact okN_of n x (d+1) (by have:=Tree.sub_lt hx;omega) (h3 i x hi) G (by omega)
def AllM (c:List av) (n:Nat) (caps:Int):Prop:=∀x∈c,bC x n caps=true
section
variable {n : Nat} {caps : Int}
theorem allM_nil:AllM [] n caps:=fun x hx=>by simp at hx
theorem allM_cons {x:av} {c:List av} (h:bC x n caps=true) (g:AllM c n caps):AllM (x::c) n caps:=fun y hy=>by
 rcases List.mem_cons.1 hy with rfl | hy
 ·exact h
 ·exact g y hy
theorem allM_app {c d:List av} (h:AllM c n caps) (g:AllM d n caps):AllM (c++d) n caps:=fun y hy=>by
 rcases List.mem_append.1 hy with hy | hy
 ·exact h y hy
 ·exact g y hy
theorem may_1 {x:Int} {rs:List (Int × Int)} (h0:0≤x) (h1:x < n) (hr:rs≠[]) (h:bq rs=true):bC (aT 1 0 x 0 rs) n caps=true:=by
 have:0 < rs.length:=List.length_pos_iff.2 hr
 simp[bC,aT,dh,h0,h1,h,this]
theorem may_2 {x y:Int} (h0:0≤x) (h1:x < n) (h2:0≤y) (h3:y < n):bC (aT 2 0 x y []) n caps=true:=by
 simp[bC,aT,dh,h0,h1,h2,h3]
theorem may_3 {a x:Int} (h0:0≤x) (h1:x < n) (h2:0≤a) (h3:a < caps):bC (aT 3 a x 0 []) n caps=true:=by
 simp[bC,aT,dh,h0,h1,h2,h3]
theorem may_4 {a x:Int} (h0:0≤x) (h1:x < n) (h:jY a=true):bC (aT 4 a x 0 []) n caps=true:=by
 simp[bC,aT,dh,h0,h1,h]
theorem may_7 {x:Int} (h0:0≤x) (h1:x < n):bC (aT 7 0 x 0 []) n caps=true:=by
 simp[bC,aT,dh,h0,h1]
theorem may_l {x y:Int} (lz:Bool) (h0:0≤x) (h1:x < n) (h2:0≤y) (h3:y < n):bC (iB x y lz) n caps=true:=by
 unfold iB
 split
 ·exact may_2 h2 h3 h0 h1
 ·exact may_2 h0 h1 h2 h3
mutual
theorem layT_may {G:Int} (hc:2*G+2≤caps):∀(t:Tree) (b:Nat),OkN G t→b+aL t < n→AllM (bG t b) n caps
 | .mk k rs am subs mn mx lz ix nm,b,ho,hb=>by
  obtain⟨o1,o2,o3,o4⟩:=ho.top
  have o1:k=2→bq rs=true:=o1
  have o2:k=3→jY am=true:=o2
  have o3:k=7→0≤ix∧ix≤G:=o3
  have o4:∀x∈subs,OkN G x:=o4
  rw[aL] at hb
  rw[bG]
  by_cases k2:k=2
  ·rw[if_pos k2] at hb ⊢
   split
   ·exact allM_cons (by simp[bC,aT]) allM_nil
   ·rename_i hr
    exact allM_cons (may_1 (by omega) (by omega) hr (o1 k2)) allM_nil
  rw[if_neg k2] at hb ⊢
  by_cases k3:k=3
  ·rw[if_pos k3] at hb ⊢
   exact allM_cons (may_4 (by omega) (by omega) (o2 k3)) allM_nil
  rw[if_neg k3] at hb ⊢
  by_cases k7:k=7
  ·rw[if_pos k7] at hb ⊢
   have:=o3 k7
   exact allM_cons (may_3 (by omega) (by omega) (by omega) (by omega)) (allM_app (layTH_may hc subs _ o4 (by omega)) (allM_cons (may_3 (by omega) (by omega) (by omega) (by omega)) allM_nil))
  rw[if_neg k7] at hb ⊢
  by_cases k4:k=4
  ·rw[if_pos k4] at hb ⊢
   exact layTL_may hc subs b o4 hb
  rw[if_neg k4] at hb ⊢
  by_cases k5:k=5
  ·rw[if_pos k5] at hb ⊢
   exact layTA_may hc subs b _ o4 (Nat.le_refl _) hb
  rw[if_neg k5] at hb ⊢
  by_cases k6:k=6
  ·rw[if_pos k6] at hb ⊢
   split
   ·rename_i h
    rw[if_pos h] at hb
    exact allM_app (layTH_may hc subs _ o4 (by omega)) (allM_cons (may_l lz (by omega) (by omega) (by omega) (by omega)) allM_nil)
   ·rename_i h
    rw[if_neg h] at hb
    split
    ·rename_i h
     rw[if_pos h] at hb
     exact allM_cons (may_l lz (by omega) (by omega) (by omega) (by omega)) (allM_app (layTH_may hc subs _ o4 (by omega)) (allM_cons (may_7 (by omega) (by omega)) allM_nil))
    ·rename_i h
     rw[if_neg h] at hb
     exact allM_cons (may_l lz (by omega) (by omega) (by omega) (by omega)) (layTH_may hc subs _ o4 (by omega))
  ·rw[if_neg k6]
   exact allM_nil
theorem layTL_may {G:Int} (hc:2*G+2≤caps):∀(l:List Tree) (b:Nat),(∀x∈l,OkN G x)→b+dD l < n→AllM (dO l b) n caps
 | [],b,ho,hb=>by rw[dO];exact allM_nil
 | t::l,b,ho,hb=>by
  rw[dD] at hb
  rw[dO]
  exact allM_app (layT_may hc t b (ho t (by simp)) (by omega)) (layTL_may hc l _ (fun x hx=>ho x (by simp[hx])) (by omega))
theorem layTA_may {G:Int} (hc:2*G+2≤caps):∀(l:List Tree) (b e:Nat),(∀x∈l,OkN G x)→b+iL l≤e→e < n→AllM (gV l b e) n caps
 | [],b,e,ho,hb,he=>by rw[gV];exact allM_nil
 | [t],b,e,ho,hb,he=>by
  rw[iL] at hb
  rw[gV]
  exact layT_may hc t b (ho t (by simp)) (by omega)
 | t::u::l,b,e,ho,hb,he=>by
  rw[iL] at hb
  rw[gV]
  exact allM_cons (may_2 (by omega) (by omega) (by omega) (by omega)) (allM_app (layT_may hc t _ (ho t (by simp)) (by omega)) (allM_cons (may_7 (by omega) (by omega)) (layTA_may hc (u::l) _ e (fun x hx=>ho x (List.mem_cons_of_mem _ hx)) (by omega) he)))
theorem layTH_may {G:Int} (hc:2*G+2≤caps):∀(l:List Tree) (b:Nat),(∀x∈l,OkN G x)→b+gF l < n→AllM (iG l b) n caps
 | [],b,ho,hb=>by rw[iG];exact allM_nil
 | t::l,b,ho,hb=>by
  rw[gF] at hb
  rw[iG]
  exact layT_may hc t b (ho t (by simp)) hb
end
end
theorem progT_len (s:Tree):(bZ s).length=aL s+3:=by
 simp[bZ,bY s 1]
theorem progT_check {t:Tree} (h:d9 t) (hl:aL (aH t)+3≤20000):fu (bZ (aH t)) 0 (2+2*dF t)=true:=by
 have hg:=grt_bnd _ t 1 (Nat.le_refl _) h.1
 have ho:=okN_form _ t (Nat.le_refl _) (okN_of _ t 1 (Nat.le_refl _) h.1 (dF t) (Int.le_refl _))
 have hlen:=progT_len (aH t)
 unfold fu
 rw[hlen]
 simp only[Bool.and_eq_true,decide_eq_true_eq,List.all_eq_true]
 refine⟨by omega,?_⟩
 have hm:AllM (bZ (aH t)) (aL (aH t)+3) (2+2*dF t):=by
  unfold bZ
  refine allM_cons (may_3 (by omega) (by omega) (by omega) (by omega)) (allM_app (layT_may (by omega) _ 1 ho (by omega)) (allM_cons (may_3 (by omega) (by omega) (by omega) (by omega)) (allM_cons ?_ allM_nil)))
  simp[bC,aT]
 exact hm
theorem progT_in {t:Tree} (h:d9 t) (hl:aL (aH t)+3≤20000):Inside (bZ (aH t)):=by
 have:=progT_check h hl
 unfold fu at this
 simp only[Bool.and_eq_true,List.all_eq_true] at this
 exact inside_of (caps:=2+2*dF t) (fun i x hx=>this.2 x (List.mem_of_getElem? hx))
end Go.Proofs.Ytnkefclbchpafaa

/-
  The walk of heronref09's row.lay. Printed by gen_lay9.py.
-/
namespace Go.Proofs.Ytnkefclbchpafaa
set_option maxRecDepth 100000
set_option maxHeartbeats 16000000
open Go.RowKit
set_option linter.unusedVariables false
theorem pairv_one9:∀(rs:List (Int × Int)),∀u∈iF rs,u.oneCell'=true
 | [],u,h=>by simp[iF] at h
 | x::r,u,h=>by
  rw[iF] at h
  simp only[List.mem_cons] at h
  rcases h with rfl | rfl | h
  ·rfl
  ·rfl
  ·exact pairv_one9 r u h
theorem info_range9:(Try.prog.info? 66).map (fun i=>(i.zero,i.size,i.bytes))=some (some (.agg #[.int .i64 0,.int .i64 0]),2,16):=by kernel_rfl
theorem fC.setR {w:World} {base rb c g n:Nat} {is:List av} {gs:List (Option Addr × Nat)} {x:av} (h:fC w base rb (some ⟨g,0,none⟩) c is gs) (hx:is[n]?=some x) {rs:List (Int × Int)} {B':Option Addr} {cc':Nat}
  (ho:w.ownsRow base 66 2 (.slice B' rs.length cc') rs.length (iF rs)) (hap:∀(i:Nat) (B:Option Addr) (cc:Nat) (b:Nat),gs[i]?=some (B,cc)→B.map (·.block)=some b→¬B'.map (·.block)=some b) :
  fC (w.setCell ⟨g,n*5+4,none⟩ (.slice B' rs.length cc')) base rb (some ⟨g,0,none⟩) c (is.set n { x with rs:=rs }) (gs.set n (B',cc')):=by
 obtain⟨B,cc,hg⟩:=h.gs_at hx
 have hn:=(List.getElem?_eq_some_iff.1 hx).1
 have hU:=(Upd.refl (fun b=>b=g) w).setCell ⟨g,n*5+4,none⟩ (.slice B' rs.length cc') (fun _=>rfl)
 have hfl:=flatI_set is gs n x { x with rs:=rs } B B' cc cc' 4 (.slice B' rs.length cc') hx hg (by omega) rfl
 obtain⟨cur,hcg,-⟩:=aK h.prog.row (g:=g) rfl
 have hng:n < gs.length:=by rw[h.prog.len];exact hn
 refine⟨?_,⟨by rw[List.length_set,List.length_set];exact h.prog.len,?_,fun i z C d hz hd=>?_,fun i j C C' d d' b h1 h2 e1 e2=>?_⟩,h.lo,Nat.le_trans h.hi hU.size,by rw[List.length_set];exact h.few⟩
 ·rw[List.length_set]
  exact h.box.upd hU h.ne_box
 ·rw[List.length_set,hfl]
  exact own_set h.prog.row (n*5+4) _ (by omega)
 ·rw[List.getElem?_set] at hz hd
  by_cases hi:n=i
  ·subst hi
   rw[if_pos rfl,if_pos hn] at hz
   rw[if_pos rfl,if_pos hng] at hd
   injection hz with hz
   injection hd with hd
   injection hd with hd1 hd2
   subst hz hd1 hd2
   exact aJ ho hU (fun b hb e=>by subst e;exact own_ne ho hcg (by decide) hb)
  ·rw[if_neg hi] at hz hd
   have ho2:=h.prog.own i z C d hz hd
   exact aJ ho2 hU (fun b hb e=>by subst e;exact own_ne ho2 hcg (by decide) hb)
 ·rw[List.getElem?_set] at h1 h2
  by_cases hi:n=i <;> by_cases hj:n=j
  ·omega
  ·subst hi
   rw[if_pos rfl,if_pos hng] at h1
   rw[if_neg hj] at h2
   injection h1 with h1
   injection h1 with h1 h1'
   subst h1
   exact absurd e1 (hap j C' d' b h2 e2)
  ·subst hj
   rw[if_neg hi] at h1
   rw[if_pos rfl,if_pos hng] at h2
   injection h2 with h2
   injection h2 with h2 h2'
   subst h2
   exact absurd e2 (hap i C d b h1 e1)
  ·rw[if_neg hi] at h1
   rw[if_neg hj] at h2
   exact h.prog.apart i j C C' d d' b h1 h2 e1 e2
theorem ProgW.range_lt {w:World} {base c:Nat} {A:Option Addr} {is:List av} {gs:List (Option Addr × Nat)} (h:ProgW w base A c is gs) {i:Nat} {B:Option Addr} {cc b:Nat} (hg:gs[i]?=some (B,cc)) (hb:B.map (·.block)=some b):b < w.heap.size:=by
 have hi:i < is.length:=by rw[←h.len];exact(List.getElem?_eq_some_iff.1 hg).1
 have ho:=h.own i _ B cc (List.getElem?_eq_getElem hi) hg
 obtain⟨cur,hc,-⟩:=aK ho (fP.2 hb)
 exact hc.lt
theorem layT_2 {t:Tree} (hk:t.kind=2) (b:Nat):bG t b=(if t.rs=[] then [aT 6 0 0 0 []] else [aT 1 0 (b+1) 0 t.rs])∧aL t=1:=by
 obtain⟨k,rs,am,subs,mn,mx,lz,ix,nm⟩:=t
 have hk:k=2:=hk
 subst hk
 exact⟨by rw[bG];rfl,by rw[aL];rfl⟩
theorem layT_3 {t:Tree} (hk:t.kind=3) (b:Nat):bG t b=[aT 4 t.am (b+1) 0 []]∧aL t=1:=by
 obtain⟨k,rs,am,subs,mn,mx,lz,ix,nm⟩:=t
 have hk:k=3:=hk
 subst hk
 exact⟨by rw[bG];rfl,by rw[aL];rfl⟩
theorem layT_7 {t x:Tree} (hk:t.kind=7) (hs:t.subs=[x]) (b:Nat):bG t b=aT 3 (2*t.ix) (b+1) 0 []::(bG x (b+1)++[aT 3 (2*t.ix+1) (b+1+aL x+1) 0 []])∧aL t=aL x+2:=by
 obtain⟨k,rs,am,subs,mn,mx,lz,ix,nm⟩:=t
 have hk:k=7:=hk
 have hs:subs=[x]:=hs
 subst hk hs
 constructor
 ·rw[bG]
  simp only[iG,gF]
  rfl
 ·rw[aL]
  simp only[gF]
  rfl
theorem layT_0 {t:Tree} (hk:t.kind < 2∨7 < t.kind) (b:Nat):bG t b=[]∧aL t=0:=by
 obtain⟨k,rs,am,subs,mn,mx,lz,ix,nm⟩:=t
 have hk:k < 2∨7 < k:=hk
 constructor
 ·rw[bG,if_neg (by omega),if_neg (by omega),if_neg (by omega),if_neg (by omega),if_neg (by omega),if_neg (by omega)]
 ·rw[aL,if_neg (by omega),if_neg (by omega),if_neg (by omega),if_neg (by omega),if_neg (by omega),if_neg (by omega)]
theorem jr {w:World} {base rb:Nat} {A:Option Addr} {P:Ending→World→Prop} {m:List av} (h:∀v w',(∃A' c' gs',eZ w base rb A w' A' c' m gs')→P (.returned v) w') {v:Value} {w':World} {A':Option Addr} {c':Nat} {m':List av} {gs':List (Option Addr × Nat)} (hN:eZ w base rb A w' A' c' m' gs') (e:m'=m):P (.returned v) w':=by
 subst e
 exact h v w' ⟨_,_,_,hN⟩
theorem lay9_go (n:Nat):∀(t:Tree),SizeOf.sizeOf t≤n→OkY t→OkN 500 t→LayC t:=by
 induction n with
 | zero=>exact fun t h=>absurd h (dw t)
 | succ n ih =>
 intro t hn hy0 hn0 w base rb c A is gs S cs hR h1 hS hlen
 obtain⟨RA,rc,SA,sc,rfl,hrr,hok,-⟩:=h1.top
 obtain⟨y1,y2,y3⟩:=hy0.top
 obtain⟨n1,-,n3,n4⟩:=hn0.top
 have hs:∀x∈t.subs,LayC x:=fun x hx=>ih x (by have:=Tree.sub_lt hx;omega) (y3 x hx) (n4 x hx)
 generalize hP:LayAns w base rb A (is++bG t is.length)=P
 have HP:=ah (show ∀v w',(∃A' c' gs',eZ w base rb A w' A' c' (is++bG t is.length) gs')→P (.returned v) w' from fun v w' a=>by rw[←hP];exact⟨⟨v,rfl⟩,a⟩)
 clear hP
 have C0:=Cells.new w 47 (au t RA rc SA sc)
 have hU:=(Upd.refl Nob w).alloc (.cells (au t RA rc SA sc) 47)
 have H1:=ah h1
 have H1b:=ah (h1.bA hU (fun _ _=>aj))
 have HRR:=ah (hrr.upd hU (fun _ _=>aj))
 have HR:=ah hR
 have HL:=ah ((eZ.refl hR).nob hU)
 have HBX:=ah (show w.heap.size≠rb by have:=hR.box.lt;omega)
 have HSS:=ah hS
 have HLEN:=ah hlen
 have HS1:=ah hs
 have HY1:=ah y1
 have HY2:=ah y2
 have HN1:=ah n1
 have HN3:=ah n3
 have HFU:=ah (full9_any (w.alloc (.cells (au t RA rc SA sc) 47)) rb is.length c A HL.out.r.box (by omega))
 rw[show decide (20000 < is.length)=false by simp;omega] at HFU
 have hlen2:(is.length:Int)≤20000:=by omega
 have HLM:=ah (show is.length < 1000000 by omega)
 have hnn:(t.subs.length:Int)≤140737488355328:=by have:=hok.n;omega
 clear hs h1 hS hlen hR hrr ih hn hy0 hn0 y1 y2 y3 n1 n3 n4
 unfold au at C0 hU H1 HL HFU H1b HRR
 unfold au
 go_enter Try.func41,Try.ntmps41
 go_upto_region 1 with fail
 generalize w.alloc (.cells #[.int .i64 t.kind,.slice RA t.rs.length rc,.int .i64 t.am,.slice SA t.subs.length sc,.int .i64 t.mn,.int .i64 t.mx,.bool t.lz,.int .i64 t.ix,.string t.nm] 47)=w1 at *
 have HT:=ah C0
 obtain⟨e0,e1,e2,e3,e4,e5,e6,e7,e8⟩:=aI C0
 clear C0 hU
 go_upto_region 3 with(go_at_call 42;refine HFU.out.mono ?_;rintro e w2 ⟨rfl,hw2⟩;subst hw2)
 by_cases k2:t.kind=2
 ·have d2:(t.kind==2)=true:=by simp[k2]
  obtain⟨hy,hlt⟩:=layT_2 k2 is.length
  have HRB:=ah (right_few (HN1.out k2))
  by_cases hrs:t.rs=[]
  ·have HY:=ah (show bG t is.length=[aT 6 0 0 0 []] by rw[hy,if_pos hrs])
   have hr0:t.rs.length=0:=by rw[hrs];rfl
   clear k2 hy hlt hrs
   go_upto_region 7 with(go_at_call 40;refine(fG HL.out.r HLM.out 6 0).mono ?_;rintro e w6 ⟨rfl,A6,c6,gs6,hN⟩;have HT:=ah (hN.keep HL.out.r HT.out (by decide) HBX.out);have HL:=ah (HL.out.trans hN);clear hN)
   obtain⟨g,rfl,-,-⟩:=HL.out.r.some_ (by simp)
   have HXZ:=ah (je is [] (aT 6 0 ((is.length:Int)+1) 0 []))
   obtain⟨is2,hi2⟩:∃m,is++[aT 6 0 ((is.length:Int)+1) 0 []]=m:=⟨_,rfl⟩
   rw[hi2] at HL HXZ
   have HI2:=ah hi2
   have hnl:is.length < is2.length:=(List.getElem?_eq_some_iff.1 HXZ.out).1
   have hnl2:(is.length:Int) < (is2.length:Int):=by omega
   have rbx:w6.cell? ⟨rb,0,none⟩=some (.slice (some ⟨g,0,none⟩) is2.length c6):=HL.out.r.box.ak rfl
   obtain⟨f0,f1,f2,f3,-⟩:=HL.out.r.cells HXZ.out
   have t1:=HL.out.r.thaw (is.length*5+1)
   clear hi2
   go_wp2_with fail
   try simp only[Exit.inBlock,Exit.then]
   refine bodyPost_ret (results_none rfl _ _ _) rfl ?_
   exact jr HP.out (HL.out.setX HXZ.out 0) (by rw[←HI2.out,fF,HY.out];rfl)
  ·have HY:=ah (show bG t is.length=[aT 1 0 (is.length+1) 0 t.rs] by rw[hy,if_neg hrs])
   have hr1:0 < t.rs.length:=by
    rcases Nat.eq_zero_or_pos t.rs.length with h | h
    ·exact absurd (List.eq_nil_of_length_eq_zero h) hrs
    ·exact h
   have hr0:(t.rs.length==0)=false:=by simp;omega
   have hr2:((t.rs.length:Int)==0)=false:=by simp;omega
   clear k2 hy hlt
   obtain⟨ad,hAd,hadb,hadS,hadc⟩:=HRR.out.r.2 hr1
   subst hAd
   have HRN:=ah (show(iF t.rs).length=t.rs.length*2 from HRR.out.r.1)
   have HADC:=ah (And.intro hadb (And.intro hadS hadc))
   clear hadb hadS hadc hrs
   go_upto_region 10 with(go_at_call 40;refine(fG HL.out.r HLM.out 1 0).mono ?_;rintro e w6 ⟨rfl,A6,c6,gs6,hN⟩;have HT:=ah (hN.keep HL.out.r HT.out (by decide) HBX.out);have HRD:=ah (show ∀(j:Nat) (u:Value),(iF t.rs)[j]?=some u→w6.cell? (ad.add j)=some u from fun j u hu=>(hN.u.cell (p:=ad.add j) (by rw[add_block];exact HADC.out.1) (fun e=>by rw[add_block] at e;have h1:=HSS.out _ HADC.out.2.1;exact e.elim h1.2 (fun e=>by have h2:=HL.out.r.own_lo_ e;omega))).trans (HADC.out.2.2 j u hu));have HL:=ah (HL.out.trans hN);clear hN)
   obtain⟨g,rfl,-,hgl⟩:=HL.out.r.some_ (by simp)
   obtain⟨z0,hz0⟩:∃z,aT 1 0 ((is.length:Int)+1) 0 []=z:=⟨_,rfl⟩
   have HXZ:=ah (je is [] z0)
   rw[hz0] at HL
   have HZ0:=ah hz0
   obtain⟨is2,hi2⟩:∃m,is++[z0]=m:=⟨_,rfl⟩
   rw[hi2] at HL HXZ
   have HI2:=ah hi2
   have hnl:is.length < is2.length:=(List.getElem?_eq_some_iff.1 HXZ.out).1
   have hnl2:(is.length:Int) < (is2.length:Int):=by omega
   have HSL:=ah (show ∀w',Upd (fun b=>b=g) w6 w'→(fun w':World=>w'.cell? ⟨rb,0,none⟩=some (.slice (some ⟨g,0,none⟩) is2.length c6)∧w'.cell? ⟨w.heap.size,0+1,none⟩=some (.slice (some ad) t.rs.length rc)) w' from fun w' hU=>⟨(HL.out.r.box.upd hU HL.out.r.ne_box).ak rfl,(HT.out.upd hU (fun e=>HL.out.r.jE HT.out (by decide) (by rw[e];rfl))).ak rfl⟩)
   have l0:=(HSL.out w6 (Upd.refl _ _)).1
   have l1:=(HSL.out w6 (Upd.refl _ _)).2
   obtain⟨f0,f1,f2,f3,v4,f4⟩:=HL.out.r.cells HXZ.out
   have HF4:=ah f4
   have HU0:=ah (Upd.refl (fun b=>b=g) w6)
   have HUD:=ah ((Upd.refl (fun b=>b=g) w6).drew)
   have HNIL:=ah (World.ownsRow_nil w6.drew base 66 2)
   obtain⟨i0,hi0,hz0',hz1,hz2⟩:=info_parts info_range9
   have HH:=ah (show base≤w6.drew.heap.size from HL.out.r.hi)
   have HGL:=ah hgl
   clear hz0 hi2 f0 f1 f2 f3 f4 e0 e1 e2 e3 e4 e5 e6 e7 e8 hgl
   go_region_held3 (fun w':World=>w'.cell? ⟨rb,0,none⟩=some (.slice (some ⟨g,0,none⟩) is2.length c6)∧w'.cell? ⟨w.heap.size,0+1,none⟩=some (.slice (some ad) t.rs.length rc))
    (first | (with_reducible exact HSL.out _ HU0.out) | (with_reducible exact HSL.out _ HUD.out) | (with_reducible exact HSL.out _ HUN.out) | (with_reducible exact HSL.out _ HUF.out))
    (first
    | (refine step_append_lies _ rfl (.tmp 36) (.tmp 38) 44 rfl base 66 i0 _ 2 16 Try.underlying44 hi0 hz0' hz1 hz2 rfl (by decide) (.slice none 0 0) 0 [] (by rfl) HNIL.out ad t.rs.length rc (iF t.rs) (by rfl) HRN.out HRD.out (pairv_one9 _) (by omega) (by unfold maxLen;have:=HRB.out;omega) (by have:=HRB.out;omega) HH.out w6.heap.size rfl ?_;intro gN cN w9 oN gr hat hlt9;have HON:=ah oN;have HGR:=ah gr;have HAT:=ah hat;have HUN:=ah ((HUD.out).grown gr (fun k hk _=>by cases hk));have HF9:=ah (show w9.cell? ⟨g,is.length*5+4,none⟩=some v4 from(Upd.cell ((Upd.refl Nob w6.drew).grown gr (fun k hk _=>by cases hk)) (p:=⟨g,is.length*5+4,none⟩) HGL.out aj).trans HF4.out);have f4:=HF9.out;have t4:w9.frozen? ⟨g,is.length*5+4,none⟩=false:=((HL.out.r.nob (((Upd.refl Nob w6).drew).grown gr (fun k hk _=>by cases hk))).thaw _);have HUF:=ah (HUN.out.setCell ⟨g,is.length*5+4,none⟩ (.slice (some ⟨gN,0,none⟩) t.rs.length cN) (fun _=>rfl));clear oN gr hat hlt9))
   go_wp2_with fail
   try simp only[Exit.inBlock,Exit.then]
   refine bodyPost_ret (results_none rfl _ _ _) rfl ?_
   have U9:Upd Nob w6 w9:=((Upd.refl Nob w6).drew).grown HGR.out (fun k hk _=>by cases hk)
   have hon:=HON.out
   rw[Nat.zero_add,List.nil_append] at hon
   have hL9:=HL.out.nob U9
   have hr:=hL9.r.setR HXZ.out hon (fun i B cc b hg hb e=>by
    have h1:=HL.out.r.prog.range_lt hg hb
    rcases HAT.out with h | h
    ·cases h
    ·have e:some gN=some b:=e
     injection e with e
     omega)
   have hu:=hL9.u.setCell ⟨g,is.length*5+4,none⟩ (.slice (some ⟨gN,0,none⟩) t.rs.length cN) (fun hb=>(HL.out.n g rfl).elim .inr (fun e=>by have hb:g < w.heap.size:=hb;omega))
   exact jr HP.out ⟨hr,hu,hL9.n⟩ (by rw[←HI2.out,fF,HY.out,←HZ0.out];rfl)
 have d2:(t.kind==2)=false:=by simpa using k2
 by_cases k3:t.kind=3
 ·have d3:(t.kind==3)=true:=by simp[k3]
  have HY:=ah (layT_3 k3 is.length).1
  clear k3 k2
  go_wp2_with (go_at_call 40;refine(fG HL.out.r HLM.out 4 t.am).mono ?_;rintro e w6 ⟨rfl,A6,c6,gs6,hN⟩;have HT:=ah (hN.keep HL.out.r HT.out (by decide) HBX.out);have HL:=ah (HL.out.trans hN);clear hN)
  try simp only[Exit.inBlock,Exit.then]
  refine bodyPost_ret (results_none rfl _ _ _) rfl ?_
  exact jr HP.out HL.out (by rw[HY.out])
 have d3:(t.kind==3)=false:=by simpa using k3
 by_cases k7:t.kind=7
 ·have d7:(t.kind==7)=true:=by simp[k7]
  obtain⟨x,hx⟩:=HY1.out (.inr k7)
  obtain⟨hy,hlt⟩:=layT_7 k7 hx is.length
  have HY:=ah hy
  obtain⟨ix0,ix1⟩:=HN3.out k7
  have hw1:IntKind.i64.wrap (2*t.ix)=2*t.ix:=by rw[IntKind.wrap_i64];omega
  have hw2:IntKind.i64.wrap (2*t.ix+1)=2*t.ix+1:=by rw[IntKind.wrap_i64];omega
  have g0:0 < t.subs.length:=by rw[hx];simp
  obtain⟨gx,ox,x',PA,pc,QA,qc,rfl,hSg,hgl,hx',hX,hlx,hcs⟩:=aB.sub0 H1b.out.open_.2.2 g0
  have hxx:x'=x:=by rw[hx] at hx';simp at hx';exact hx'.symm
  subst hxx
  have HX:=ah hX
  have HXL:=ah (HS1.out x' (by rw[hx];simp))
  have HGB:=ah (HSS.out gx hSg)
  have HGL:=ah hgl
  have HCS:=ah hcs
  have HB1:=ah (show is.length+aL x'+2≤20000 by have:=HLEN.out;omega)
  clear k7 k3 k2 hy hlt hX hlx hcs hx hx' hSg hgl
  go_upto_region 15 with(go_at_call 40;refine(fG HL.out.r HLM.out 3 (2*t.ix)).mono ?_;rintro e w6 ⟨rfl,A6,c6,gs6,hN⟩;have HT:=ah (hN.keep HL.out.r HT.out (by decide) HBX.out);have HX:=ah (hN.node HL.out.r HX.out HSS.out);have HCS2:=ah (show ∀(j:Nat) (v:Value),(au x' PA pc QA qc)[j]?=some v→w6.cell? ⟨gx,ox+j,none⟩=some v from fun j v hv=>(hN.cell_ HL.out.r HGL.out HGB.out (ox+j)).trans (HCS.out j v hv));have HL:=ah (HL.out.trans hN);clear hN)
  obtain⟨z0,hz0⟩:∃z,aT 3 (2*t.ix) ((is.length:Int)+1) 0 []=z:=⟨_,rfl⟩
  rw[hz0] at HL
  have HZ0:=ah hz0
  obtain⟨is1,hi1⟩:∃m,is++[z0]=m:=⟨_,rfl⟩
  rw[hi1] at HL
  have HI1:=ah hi1
  have hl1:is1.length=is.length+1:=by rw[←hi1,List.length_append];rfl
  have HN1':=ah hl1
  clear hz0 hi1 hl1 e0 e1 e2 e3 e4 e5 e6 e7 e8
  obtain⟨e0,e1,e2,e3,e4,e5,e6,e7,e8⟩:=aI HT.out
  obtain⟨p0,p1,p2,p3,p4,p5,p6,p7,p8⟩:=bH HCS2.out
  go_upto_region 16 with(go_at_call 41;refine(HXL.out _ base rb _ _ _ _ S _ HL.out.r HX.out HSS.out (by have:=HB1.out;have:=HN1'.out;omega)).mono ?_;rintro e w5 ⟨⟨v,rfl⟩,A5,c5,gs5,hN⟩;have HT:=ah (hN.keep HL.out.r HT.out (by decide) HBX.out);have HL:=ah (HL.out.trans hN);clear hN)
  obtain⟨is2,hi2⟩:∃m,is1++bG x' is1.length=m:=⟨_,rfl⟩
  rw[hi2] at HL
  have HI2:=ah (show is2=is++(z0::bG x' (is.length+1)) by rw[←hi2,HN1'.out,←HI1.out,List.append_assoc];rfl)
  have hl2:is2.length=is.length+1+aL x':=by rw[←hi2,List.length_append,bY,HN1'.out]
  have HN2:=ah hl2
  clear hi2 hl2 e0 e1 e2 e3 e4 e5 e6 e7 e8 p0 p1 p2 p3 p4 p5 p6 p7 p8
  obtain⟨e0,e1,e2,e3,e4,e5,e6,e7,e8⟩:=aI HT.out
  go_wp2_with (go_at_call 40;refine(fG HL.out.r (by have:=HB1.out;have:=HN2.out;omega) 3 (2*t.ix+1)).mono ?_;rintro e w6 ⟨rfl,A6,c6,gs6,hN⟩;have HL:=ah (HL.out.trans hN);clear hN)
  try simp only[Exit.inBlock,Exit.then]
  refine bodyPost_ret (results_none rfl _ _ _) rfl ?_
  refine jr HP.out HL.out ?_
  rw[HY.out,HN2.out,HI2.out,←HZ0.out,List.append_assoc,List.cons_append]
  simp only[Int.natCast_add]
  rfl
 have d7:(t.kind==7)=false:=by simpa using k7
 by_cases k4:t.kind=4
 ·have d4:(t.kind==4)=true:=by simp[k4]
  obtain⟨hy,hlt⟩:=layT_4 k4 is.length
  have HY:=ah hy
  have HLT:=ah hlt
  have HL0:=ah (show eZ w base rb A w1 A c (is++dO (t.subs.take 0) is.length) gs by rw[List.take_zero,dO,List.append_nil];exact HL.out)
  clear k4 k7 k3 k2 hy hlt HL e1 e2 e3 e4 e5 e6 e7 e8
  go_wp2_with fail
  clear e0
  go_loopg [8] t.subs.length (fun gk v8 wr=>∃(i:Nat) (A':Option Addr) (c':Nat) (gs':List (Option Addr × Nat)),i+gk=t.subs.length∧v8=.int .i64 (i:Int)∧eZ w base rb A wr A' c' (is++dO (t.subs.take i) is.length) gs'∧Cells wr w.heap.size 47 #[.int .i64 t.kind,.slice RA t.rs.length rc,.int .i64 t.am,.slice SA t.subs.length sc,.int .i64 t.mn,.int .i64 t.mx,.bool t.lz,.int .i64 t.ix,.string t.nm])
  case atStart=>exact⟨0,A,c,gs,by omega,rfl,HL0.out,HT.out⟩
  case round =>
   clear HL0 HT
   obtain⟨i,A1,c1,gs1,hi,rfl,hL,hT⟩:=hrel
   have HI:=ah hi
   have HL:=ah hL
   have HT:=ah hT
   clear hi hL hT
   have b3:wr.cell? ⟨w.heap.size,0+3,none⟩=some (.slice SA t.subs.length sc):=HT.out.ak rfl
   by_cases hlt:i < t.subs.length
   ·have g2:(i:Int) < (t.subs.length:Int):=by omega
    have HNr:=ah (HL.out.node HR.out H1.out HSS.out)
    obtain⟨ad,g,o,x,PA,pc,QA,qc,rfl,hadd,hSg,hgl,hx,hX,hlx,hcs⟩:=aB.sub HNr.out.open_.2.2 hlt
    obtain⟨p0,p1,p2,p3,p4,p5,p6,p7,p8⟩:=bH hcs
    have HX:=ah hX
    have HXL:=ah (HS1.out x (List.mem_of_getElem? hx))
    have HXG:=ah hx
    obtain⟨isr,hisr⟩:∃m,is++dO (t.subs.take i) is.length=m:=⟨_,rfl⟩
    rw[hisr] at HL
    have HISR:=ah hisr
    have hlr:isr.length=is.length+dD (t.subs.take i):=by rw[←hisr,List.length_append,layTL_len]
    have htk:t.subs.take (i+1)=t.subs.take i++[x]:=by
     rw[List.take_succ_eq_append_getElem hlt]
     rw[List.getElem?_eq_getElem hlt] at hx
     injection hx with hx
     rw[hx]
    have HTK:=ah htk
    have hto:dD (t.subs.take (i+1))+dD (t.subs.drop (i+1))=dD t.subs:=by rw[←lenTL_app,List.take_append_drop]
    have HBD:=ah (show isr.length+aL x≤20000 by
     rw[htk,lenTL_app,(iA x 0).2] at hto
     have:=HLEN.out
     have:=HLT.out
     omega)
    have HLR:=ah hlr
    clear hX hlx hcs hx hSg hgl hisr hlr htk hto
    go_wp2_with (go_at_call 41;refine(HXL.out _ base rb _ _ _ _ S _ HL.out.r HX.out HSS.out HBD.out).mono ?_;rintro e w5 ⟨⟨v,rfl⟩,A5,c5,gs5,hN⟩;have HT:=ah (hN.keep HL.out.r HT.out (by decide) HBX.out);have HL:=ah (HL.out.trans hN);clear hN)
    have hL:=HL.out
    have hfin:isr++bG x isr.length=is++dO (t.subs.take (i+1)) is.length:=by
     rw[HTK.out,layTL_app,(iA x _).1,←List.append_assoc,HISR.out,HLR.out]
    rw[hfin] at hL
    have HL2:=ah hL
    clear hL hfin
    go_roundg (t.subs.length - (i+1))
    case measure=>have:=HI.out;omega
    case rel=>exact⟨i+1,_,_,_,by have:=HI.out;omega,by go_num,HL2.out,HT.out⟩
   ·have g2:¬(i:Int) < (t.subs.length:Int):=by omega
    have htk:t.subs.take i=t.subs:=List.take_of_length_le (by omega)
    have hL:=HL.out
    rw[htk,←HY.out] at hL
    have HL2:=ah hL
    clear htk hL
    go_wp2_with fail
    try simp only[Exit.inBlock,Exit.then]
    refine bodyPost_ret (results_none rfl _ _ _) rfl ?_
    exact jr HP.out HL2.out rfl
 have d4:(t.kind==4)=false:=by simpa using k4
 by_cases k5:t.kind=5
 ·have d5:(t.kind==5)=true:=by simp[k5]
  have hne:=HY2.out k5
  have HAL:=ah (alt9_any t (t.subs.getLast hne) t.subs.dropLast k5 (List.dropLast_concat_getLast hne).symm HS1.out w1 base rb c A is gs S _ HL.out.r H1b.out HSS.out HLEN.out)
  clear k5 k4 k7 k3 k2 hne
  go_wp2_with (go_at_call 61;refine HAL.out.mono ?_;rintro e w5 ⟨⟨v,rfl⟩,A5,c5,gs5,hN⟩;have HL:=ah (HL.out.trans hN);clear hN)
  try simp only[Exit.inBlock,Exit.then]
  refine bodyPost_ret (results_none rfl _ _ _) rfl ?_
  exact jr HP.out HL.out rfl
 have d5:(t.kind==5)=false:=by simpa using k5
 by_cases k6:t.kind=6
 ·have d6:(t.kind==6)=true:=by simp[k6]
  obtain⟨x,hx⟩:=HY1.out (.inl k6)
  have HLP:=ah (loop9_any t x k6 hx (HS1.out x (by rw[hx];simp)) w1 base rb c A is gs S _ HL.out.r H1b.out HSS.out HLEN.out)
  clear k6 k5 k4 k7 k3 k2 hx
  go_wp2_with (go_at_call 62;refine HLP.out.mono ?_;rintro e w5 ⟨⟨v,rfl⟩,A5,c5,gs5,hN⟩;have HL:=ah (HL.out.trans hN);clear hN)
  try simp only[Exit.inBlock,Exit.then]
  refine bodyPost_ret (results_none rfl _ _ _) rfl ?_
  exact jr HP.out HL.out rfl
 have d6:(t.kind==6)=false:=by simpa using k6
 have HY:=ah (layT_0 (t:=t) (by omega) is.length).1
 clear k6 k5 k4 k7 k3 k2
 go_wp2_with fail
 try simp only[Exit.inBlock,Exit.then]
 refine bodyPost_ret (results_none rfl _ _ _) rfl ?_
 exact jr HP.out HL.out (by rw[HY.out,List.append_nil])
end Go.Proofs.Ytnkefclbchpafaa
