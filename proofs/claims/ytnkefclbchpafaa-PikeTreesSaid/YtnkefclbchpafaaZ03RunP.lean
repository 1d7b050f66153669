/-
  UnfT, Noted, RunP, put together.
-/
import Derived.Test.YtnkefclbchpafaaZ00Unf
import Derived.Test.YtnkefclbchpafaaZ02TreeP
import Derived.Test.YtnkefclbchpafaaZ01PlainP

/-
  A tree unfolded into a row of nodes, plain: the row stands for the unfolded tree.
-/
namespace Go.Proofs.Ytnkefclbchpafaa
set_option linter.unusedVariables false
def rowU:List UT→UT
 | []=>.eps
 | [x]=>x
 | l=>.cat l
def optU (x:UT) (lz:Bool):Nat→UT
 | 0=>.eps
 | 1=>.quest x lz
 | k+2=>.quest (.cat [x,optU x lz (k+1)]) lz
def repU (x:UT) (mn mx:Int) (lz:Bool):UT :=
 if mx < 0∧mn=0 then .star x lz
 else rowU (List.replicate (if mx < 0 then mn - 1 else mn).toNat x++(if mx < 0 then [.plus x lz] else if mn < mx then [optU x lz (mx - mn).toNat] else []))
mutual
def jS:Tree→UT
 | .mk k rs am subs mn mx lz ix nm =>
  if k=6 then repU (unfUH subs) mn mx lz
  else if k=2 then .cls rs
  else if k=3 then .asr am
  else if k=4 then .cat (gP subs)
  else if k=5 then .alt (gP subs)
  else if k=7 then .grp ix (unfUH subs)
  else .eps
def gP:List Tree→List UT
 | []=>[]
 | t::l=>jS t::gP l
def unfUH:List Tree→UT
 | []=>.eps
 | t::_=>jS t
end
theorem unfUL_map:∀(l:List Tree),gP l=l.map jS
 | []=>by rw[gP];rfl
 | t::l=>by rw[gP,unfUL_map l];rfl
def fK (l:List PN) (s n k:Nat):List PN:=l.modify s (fun y=>{ y with up:=(n:Int),nth:=(k:Int) })
def dU (l:List PN) (n:Nat):Nat→List Nat→List PN
 | _,[]=>l
 | k,s::ss=>dU (fK l s n k) n (k+1) ss
abbrev Uf:=List PN→List PN × Nat
def aX (k:Int) (subs:List Nat) (lz:Bool):PN:=⟨k,0,0,[],subs,lz,0,0⟩
def dA (x:PN):Uf:=fun l=>(dU (l++[{ x with up:=-1 }]) l.length 0 x.subs,l.length)
def iK (ss:List Nat):Uf:=fun l=>match ss with
 | []=>dA (aX 1 [] false) l
 | [a]=>(l,a)
 | ss=>dA (aX 4 ss false) l
def fZ (f:Uf) (lz:Bool):Nat→Uf
 | 0=>fun l=>(l,0)
 | 1=>fun l=>dA (aX 103 [(f l).2] lz) (f l).1
 | k+2=>fun l =>
  let r:=fZ f lz (k+1) (f l).1
  let q:=iK [(f l).2,r.2] r.1
  dA (aX 103 [q.2] lz) q.1
def aF (f:Uf):Nat→List PN→List PN × List Nat
 | 0,l=>(l,[])
 | n+1,l=>((aF f n (f l).1).1,(f l).2::(aF f n (f l).1).2)
def iJ (f:Uf) (mn mx:Int) (lz:Bool):Uf:=fun l =>
 if mx < 0∧mn=0 then dA (aX 101 [(f l).2] lz) (f l).1
 else
  let q:=aF f (if mx < 0 then mn - 1 else mn).toNat l
  if mx < 0 then
   let p:=dA (aX 102 [(f q.1).2] lz) (f q.1).1
   iK (q.2++[p.2]) p.1
  else if mn < mx then
   let r:=fZ f lz (mx - mn).toNat q.1
   iK (q.2++[r.2]) r.1
  else iK q.2 q.1
mutual
def bJ:Tree→Uf
 | .mk k rs am subs mn mx lz ix nm=>fun l=>if k=6 then iJ (unfTH subs) mn mx lz l else dA ⟨k,am,ix,rs,(bU subs l).2,false,0,0⟩ (bU subs l).1
def bU:List Tree→List PN→List PN × List Nat
 | [],l=>(l,[])
 | t::r,l=>((bU r (bJ t l).1).1,(bJ t l).2::(bU r (bJ t l).1).2)
def unfTH:List Tree→Uf
 | []=>fun l=>(l,0)
 | t::_=>bJ t
end
def Pre (l l':List PN):Prop:=∀(i:Nat) (x:PN),l[i]?=some x→l'[i]?=some x
theorem Pre.refl (l:List PN):Pre l l:=fun _ _ h=>h
theorem Pre.trans {a b c:List PN} (h:Pre a b) (g:Pre b c):Pre a c:=fun i x hx=>g i x (h i x hx)
theorem Pre.len {l l':List PN} (h:Pre l l'):l.length≤l'.length:=by
 cases hn:l.length with
 | zero=>exact Nat.zero_le _
 | succ n =>
  have hx:l[n]?=some (l[n]'(by omega)):=List.getElem?_eq_getElem (by omega)
  have:=(List.getElem?_eq_some_iff.1 (h n _ hx)).1
  omega
def Ext (l l':List PN):Prop:=∀(i:Nat) (x:PN),l[i]?=some x→∃x':PN,l'[i]?=some x'∧x'.kind=x.kind∧x'.asr=x.asr∧x'.ix=x.ix∧x'.rs=x.rs∧x'.subs=x.subs∧x'.lz=x.lz∧(0≤x.up→x'.up=x.up∧x'.nth=x.nth)
theorem Pre.ext {l l':List PN} (h:Pre l l'):Ext l l':=fun i x hx=>⟨x,h i x hx,rfl,rfl,rfl,rfl,rfl,rfl,fun _=>⟨rfl,rfl⟩⟩
mutual
theorem Rep.ext {l l':List PN} (he:Ext l l'):∀(u:UT) (n:Nat),Rep l u n→Rep l' u n
 | .eps,n,h=>by
  cases h with
  | eps _ x h1 h2=>obtain⟨x',e0,e1,-⟩:=he n x h1;exact .eps n x' e0 (by omega)
 | .cls rs,n,h=>by
  cases h with
  | cls _ x h1 h2=>obtain⟨x',e0,e1,e2,e3,e4,-⟩:=he n x h1;rw[←e4];exact .cls n x' e0 (by omega)
 | .asr a,n,h=>by
  cases h with
  | asr _ x h1 h2=>obtain⟨x',e0,e1,e2,-⟩:=he n x h1;rw[←e2];exact .asr n x' e0 (by omega)
 | .cat us,n,h=>by
  cases h with
  | cat _ x _ h1 h2 h0 h3=>obtain⟨x',e0,e1,e2,e3,e4,e5,-⟩:=he n x h1;exact .cat n x' us e0 (by omega) (by rw[e5];exact h0) (by rw[e5];exact dW.ext he us n 0 x.subs h3)
 | .alt us,n,h=>by
  cases h with
  | alt _ x _ h1 h2 h3=>obtain⟨x',e0,e1,e2,e3,e4,e5,-⟩:=he n x h1;exact .alt n x' us e0 (by omega) (by rw[e5];exact dW.ext he us n 0 x.subs h3)
 | .grp ix u,n,h=>by
  cases h with
  | grp _ x _ h1 h2 h3=>obtain⟨x',e0,e1,e2,e3,e4,e5,-⟩:=he n x h1;rw[←e3];exact .grp n x' u e0 (by omega) (by
   obtain⟨s,y,e,g1,g2,g3,g4⟩:=h3.one
   obtain⟨y',f0,-,-,-,-,-,-,f7⟩:=he s y g2
   obtain⟨k1,k2⟩:=f7 (by omega)
   rw[e5,e]
   exact .cons n 0 u [] s [] y' (Rep.ext he u s g1) f0 (by omega) (by omega) (.nil n 1))
 | .star u lz,n,h=>by
  cases h with
  | star _ x _ h1 h2 h3=>obtain⟨x',e0,e1,e2,e3,e4,e5,e6,-⟩:=he n x h1;rw[←e6];exact .star n x' u e0 (by omega) (by
   obtain⟨s,y,e,g1,g2,g3,g4⟩:=h3.one
   obtain⟨y',f0,-,-,-,-,-,-,f7⟩:=he s y g2
   obtain⟨k1,k2⟩:=f7 (by omega)
   rw[e5,e]
   exact .cons n 0 u [] s [] y' (Rep.ext he u s g1) f0 (by omega) (by omega) (.nil n 1))
 | .plus u lz,n,h=>by
  cases h with
  | plus _ x _ h1 h2 h3=>obtain⟨x',e0,e1,e2,e3,e4,e5,e6,-⟩:=he n x h1;rw[←e6];exact .plus n x' u e0 (by omega) (by
   obtain⟨s,y,e,g1,g2,g3,g4⟩:=h3.one
   obtain⟨y',f0,-,-,-,-,-,-,f7⟩:=he s y g2
   obtain⟨k1,k2⟩:=f7 (by omega)
   rw[e5,e]
   exact .cons n 0 u [] s [] y' (Rep.ext he u s g1) f0 (by omega) (by omega) (.nil n 1))
 | .quest u lz,n,h=>by
  cases h with
  | quest _ x _ h1 h2 h3=>obtain⟨x',e0,e1,e2,e3,e4,e5,e6,-⟩:=he n x h1;rw[←e6];exact .quest n x' u e0 (by omega) (by
   obtain⟨s,y,e,g1,g2,g3,g4⟩:=h3.one
   obtain⟨y',f0,-,-,-,-,-,-,f7⟩:=he s y g2
   obtain⟨k1,k2⟩:=f7 (by omega)
   rw[e5,e]
   exact .cons n 0 u [] s [] y' (Rep.ext he u s g1) f0 (by omega) (by omega) (.nil n 1))
theorem dW.ext {l l':List PN} (he:Ext l l'):∀(us:List UT) (n k:Nat) (ss:List Nat),dW l us n k ss→dW l' us n k ss
 | [],n,k,ss,h=>by cases h;exact .nil n k
 | u::us,n,k,ss,h=>by
  cases h with
  | cons _ _ _ _ s ss x h1 h2 h3 h4 h5 =>
   obtain⟨x',e0,-,-,-,-,-,-,e7⟩:=he s x h2
   obtain⟨g1,g2⟩:=e7 (by omega)
   exact .cons n k u us s ss x' (Rep.ext he u s h1) e0 (by omega) (by omega) (dW.ext he us n (k+1) ss h5)
end
inductive eD (l:List PN):List UT→Nat→List Nat→Prop
 | nil (a:Nat):eD l [] a []
 | cons (a:Nat) (u:UT) (us:List UT) (s:Nat) (ss:List Nat) (x:PN):a≤s→Rep l u s→l[s]?=some x→x.up < 0→eD l us (s+1) ss→eD l (u::us) a (s::ss)
theorem eD.pre {l l':List PN} (h:Pre l l') {us:List UT} {a:Nat} {ss:List Nat} (hr:eD l us a ss):eD l' us a ss:=by
 induction hr with
 | nil a=>exact .nil a
 | cons a u us s ss x h1 h2 h3 h4 _ ih=>exact .cons a u us s ss x h1 (Rep.ext h.ext u s h2) (h s x h3) h4 ih
theorem eD.low {l:List PN} {us:List UT} {a b:Nat} {ss:List Nat} (hr:eD l us b ss) (h:a≤b):eD l us a ss:=by
 cases hr with
 | nil=>exact .nil a
 | cons _ u us s ss x h1 h2 h3 h4 h5=>exact .cons a u us s ss x (by omega) h2 h3 h4 h5
theorem setUp_at (l:List PN) (s n k i:Nat):(fK l s n k)[i]?=if i=s then (l[i]?).map (fun y=>{ y with up:=(n:Int),nth:=(k:Int) }) else l[i]?:=by
 unfold fK
 rw[List.getElem?_modify]
 by_cases h:s=i
 ·subst h;simp
 ·rw[if_neg (fun e=>h e.symm)]
  simp[h]
theorem setUps_spec (n:Nat):∀ {us:List UT} {a k:Nat} {ss:List Nat} {l:List PN},eD l us a ss→(∀(i:Nat) (x:PN),i < a→l[i]?=some x→(dU l n k ss)[i]?=some x)∧Ext l (dU l n k ss)∧dW (dU l n k ss) us n k ss
  ∧ (∀(i:Nat) (x:PN),l[i]?=some x→i ∉ ss→(dU l n k ss)[i]?=some x)∧(dU l n k ss).length=l.length
 | [],a,k,ss,l,h=>by
  cases h
  exact⟨fun _ _ _ h=>h,(Pre.refl l).ext,.nil n k,fun _ _ h _=>h,rfl⟩
 | u::us,a,k,ss,l,h=>by
  cases h with
  | cons _ _ _ s ss x h1 h2 h3 h4 h5 =>
   have hS:∀(i:Nat) (y:PN),l[i]?=some y→i≠s→(fK l s n k)[i]?=some y:=fun i y hy hi=>by rw[setUp_at,if_neg hi];exact hy
   have hSs:(fK l s n k)[s]?=some { x with up:=(n:Int),nth:=(k:Int) }:=by rw[setUp_at,if_pos rfl,h3];rfl
   have hE:Ext l (fK l s n k):=fun i y hy=>by
    by_cases hi:i=s
    ·subst hi
     rw[h3] at hy
     injection hy with hy
     subst hy
     exact⟨_,hSs,rfl,rfl,rfl,rfl,rfl,rfl,fun h=>absurd h4 (by omega)⟩
    ·exact⟨y,hS i y hy hi,rfl,rfl,rfl,rfl,rfl,rfl,fun _=>⟨rfl,rfl⟩⟩
   have hR:eD (fK l s n k) us (s+1) ss:=by
    have key:∀ {us:List UT} {b:Nat} {ss:List Nat},eD l us b ss→s < b→eD (fK l s n k) us b ss:=by
     intro us b ss hr
     induction hr with
     | nil a=>exact fun _=>.nil a
     | cons a u us s' ss x h1 h2 h3 h4 _ ih=>exact fun hb=>.cons a u us s' ss x h1 (Rep.ext hE u s' h2) (hS s' x h3 (by omega)) h4 (ih (by omega))
    exact key h5 (by omega)
   obtain⟨i1,i2,i3,i4,i5⟩:=setUps_spec n (k:=k+1) hR
   have hlen:(fK l s n k).length=l.length:=by simp[fK]
   refine⟨fun i y hi hy=>i1 i y (by omega) (hS i y hy (by omega)),?_,?_,fun i y hy hi=>i4 i y (hS i y hy (fun e=>hi (by simp[e]))) (fun e=>hi (by simp[e])),by rw[show dU l n k (s::ss)=dU (fK l s n k) n (k+1) ss from rfl,i5,hlen]⟩
   ·intro i y hy
    obtain⟨y1,a0,a1,a2,a3,a4,a5,a6,a7⟩:=hE i y hy
    obtain⟨y2,b0,b1,b2,b3,b4,b5,b6,b7⟩:=i2 i y1 a0
    refine⟨y2,b0,by omega,by omega,by omega,by rw[b4,a4],by rw[b5,a5],by rw[b6,a6],fun h=>?_⟩
    obtain⟨c1,c2⟩:=a7 h
    obtain⟨d1,d2⟩:=b7 (by omega)
    exact⟨by omega,by omega⟩
   ·have hs:=i1 s _ (by omega) hSs
    exact .cons n k u us s ss _ (Rep.ext i2 u s (Rep.ext hE u s h2)) hs rfl rfl i3
theorem put_good {l0 l:List PN} {us:List UT} {x:PN} (hp:Pre l0 l) (hr:eD l us l0.length x.subs) :
  Pre l0 (dA x l).1∧l0.length≤(dA x l).2∧(∃y,(dA x l).1[(dA x l).2]?=some y∧y.up < 0∧y.kind=x.kind∧y.asr=x.asr∧y.ix=x.ix∧y.rs=x.rs∧y.subs=x.subs∧y.lz=x.lz)∧dW (dA x l).1 us (dA x l).2 0 x.subs:=by
 have hA:Pre l (l++[{ x with up:=-1 }]):=fun i y hy=>by
  rw[List.getElem?_append_left (List.getElem?_eq_some_iff.1 hy).1]
  exact hy
 obtain⟨i1,i2,i3,i4,i5⟩:=setUps_spec l.length (k:=0) (hr.pre hA)
 have hno:∀ {us:List UT} {a:Nat} {ss:List Nat},eD l us a ss→∀s∈ss,s < l.length:=by
  intro us a ss hr
  induction hr with
  | nil=>intro s hs;simp at hs
  | cons a u us s ss x _ _ h3 _ _ ih =>
   intro q hq
   rcases List.mem_cons.1 hq with rfl | hq
   ·exact(List.getElem?_eq_some_iff.1 h3).1
   ·exact ih q hq
 refine⟨fun i y hy=>i1 i y (List.getElem?_eq_some_iff.1 hy).1 (hA i y (hp i y hy)),hp.len,⟨{ x with up:=-1 },?_,by show(-1:Int) < 0;omega,rfl,rfl,rfl,rfl,rfl,rfl⟩,i3⟩
 exact i4 l.length _ (by simp) (fun h=>by have:=hno hr _ h;omega)
end Go.Proofs.Ytnkefclbchpafaa

/-
  The walk of gY.noted.
-/
namespace Go.Proofs.Ytnkefclbchpafaa
set_option maxHeartbeats 16000000
open Go.RowKit
set_option linter.unusedVariables false
theorem ninfo_int:(Try.prog.info? 3).map (fun i=>(i.zero,i.size,i.bytes))=some (some (.int .i64 0),1,8):=by kernel_rfl
def NotedAns (w:World) (c:List Int) (k:Nat) (p:Int) (e:Ending) (w':World):Prop :=
 ∃g cap,e=.returned (.slice (some ⟨g,0,none⟩) c.length cap)∧w.heap.size≤g∧w'.ownsRow w.heap.size 3 1 (.slice (some ⟨g,0,none⟩) c.length cap) c.length (bn (c.set k p))∧Upd Nob w w'
theorem noted_any (w:World) (S:Nat→Prop) (CA:Option Addr) (cc:Nat) (c:List Int) (k:Nat) (p:Int) (h:Reads w S 1 CA c.length (bn c)) (hk:k < c.length) (hl:c.length≤4000) :
  Calls Try.prog 66 #[.slice CA c.length cc,.int .i64 (k:Int),.int .i64 p] w (NotedAns w c k p):=by
 obtain⟨i0,hi0,hz0,hz1,hz2⟩:=info_parts ninfo_int
 have H:=ah h
 have g1:(k:Int) < (c.length:Int):=by omega
 clear h
 go_enter Try.func66,Try.ntmps66
 have hE:(w.alloc (.cells #[] 3)).ownsRow w.heap.size 3 1 (.slice (some ⟨w.heap.size,0,none⟩) 0 0) 0 []:=⟨rfl,.inr ⟨w.heap.size,0,#[],rfl,Nat.le_refl _,heap_alloc_new w _,Nat.le_refl _,by decide,rfl,rfl⟩⟩
 go_upto_region 2 with(at_builtin;refine dS rfl _ _ 28 rfl w.heap.size 3 i0 (.int .i64 0) 1 8 Try.underlying28 hi0 hz0 hz1 hz2 rfl (by decide) (.slice (some ⟨w.heap.size,0,none⟩) 0 0) 0 [] rfl hE _ CA c.length cc (bn c) rfl (H.out.alloc _) (intv_one c) (by unfold maxLen;omega) (by omega) (by simp) ?_;intro vb w3 ob gr hatb;simp only[Nat.zero_add,List.nil_append] at ob;rcases ob.2 with⟨-,hn0⟩ | ⟨g,cap,cur,rfl,hb,hcur,hnc,hcm,hcs,htk⟩;(have hn0':c.length=0:=hn0;omega))
 have U3:=((Upd.refl Nob w).alloc (.cells #[] 3)).grown gr (fun b hb2 hlt=>by simp[Value.ownBlock] at hb2;omega)
 have hcur:Cells w3 g 3 cur:=hcur
 have HC:=ah hcur
 have HT:=ah htk
 have HU:=ah U3
 have HCM:=ah hcm
 have HCS:=ah hcs
 have HNC:=ah hnc
 have hf:=hcur.frozen k
 have hcl:k < cur.size:=by omega
 have hx:w3.cell? ⟨g,k,none⟩=some (cur[k]'hcl):=hcur.ak (Array.getElem?_eq_getElem hcl)
 clear ob gr hatb U3 hcur htk hE hcm hcs hnc
 go_wp2_with fail
 go_ret
 refine⟨g,cap,rfl,by simpa using hb,?_,HU.out.setCell _ _ (fun(hlt:g < w.heap.size)=>absurd hlt (by omega))⟩
 have hC2:=HC.out.aW k (.int .i64 p)
 refine⟨by simp[bn],.inr ⟨g,cap,_,rfl,by simpa using hb,hC2,HNC.out,HCM.out,by simp[HCS.out],?_⟩⟩
 apply List.ext_getElem?
 intro j
 have h0:∀j < c.length,cur[j]?=some (.int .i64 (c.getD j 0)):=fun j hj=>by
  have:=congrArg (·[j]?) HT.out
  simp only[Nat.mul_one,List.getElem?_take,if_pos hj,Array.getElem?_toList] at this
  rw[this]
  simp[bn,hj]
 simp only[Nat.mul_one,List.getElem?_take,Array.getElem?_toList,bn,List.getElem?_map,List.getElem?_set,Array.getElem?_setIfInBounds]
 by_cases hj:j < c.length
 ·rw[if_pos hj]
  by_cases e:k=j
  ·subst e
   simp[hcl,hk]
  ·rw[if_neg e,if_neg e,h0 j hj]
   simp[hj]
 ·rw[if_neg hj]
  have e:¬k=j:=by omega
  rw[if_neg e]
  simp[hj]
end Go.Proofs.Ytnkefclbchpafaa

/-
  The walk depth first through a row of nodes, with what was begun and decided kept, plain: it comes to an end, and its ends are what can be come to.
-/
namespace Go.Proofs.Ytnkefclbchpafaa
set_option linter.unusedVariables false
structure WSt where
 bg:Nat→Nat→Bool
 dc:Nat→Nat→Bool
 en:Nat→Bool
 out:List (Nat × List Int)
def bT (b:Nat→Nat→Bool) (n p:Nat):Nat→Nat→Bool:=fun i j=>if i=n∧j=p then true else b i j
def iq (b:Nat→Bool) (p:Nat):Nat→Bool:=fun j=>if j=p then true else b j
theorem iV (b:Nat→Nat→Bool) (n p:Nat):bT b n p n p=true:=by simp[bT]
theorem mark2_le {b:Nat→Nat→Bool} {n p i j:Nat} (h:b i j=true):bT b n p i j=true:=by unfold bT;split;rfl;exact h
theorem jK {b:Nat→Nat→Bool} {n p i j:Nat} (h:bT b n p i j=true):(i=n∧j=p)∨b i j=true:=by
 unfold bT at h
 split at h
 ·exact .inl ‹_›
 ·exact .inr h
inductive Cl where
 | B (n p:Nat) (c:List Int) | K (n p:Nat) (c:List Int) | A (ms:List Nat) (p:Nat) (c:List Int) | C (n p:Nat) (c:List Int) | D (n p:Nat) (c:List Int) | H (n p:Nat) (c:List Int)
inductive Run (E:Env) (l:List PN) (at_:Nat):Cl→WSt→WSt→Prop
 | Bmet (n:Nat) (p:Nat) (c:List Int) (s:WSt):s.bg n p=true→Run E l at_ (.B n p c) s s
 | Bgo (n:Nat) (p:Nat) (c:List Int) (s:WSt) (s':WSt):s.bg n p=false→Run E l at_ (.K n p c) { s with bg:=bT s.bg n p } s'→Run E l at_ (.B n p c) s s'
 | K1 (n:Nat) (p:Nat) (c:List Int) (s:WSt) (s':WSt) (x:PN):l[n]?=some x→x.kind=1→Run E l at_ (.H n p c) s s'→Run E l at_ (.K n p c) s s'
 | K2y (n:Nat) (p:Nat) (c:List Int) (s:WSt) (s':WSt) (x:PN):l[n]?=some x→x.kind=2→E.cls x.rs p=true→Run E l at_ (.H n (p+1) c) s s'→Run E l at_ (.K n p c) s s'
 | K2n (n:Nat) (p:Nat) (c:List Int) (s:WSt) (x:PN):l[n]?=some x→x.kind=2→E.cls x.rs p=false→Run E l at_ (.K n p c) s s
 | K3y (n:Nat) (p:Nat) (c:List Int) (s:WSt) (s':WSt) (x:PN):l[n]?=some x→x.kind=3→E.asr x.asr p=true→Run E l at_ (.H n p c) s s'→Run E l at_ (.K n p c) s s'
 | K3n (n:Nat) (p:Nat) (c:List Int) (s:WSt) (x:PN):l[n]?=some x→x.kind=3→E.asr x.asr p=false→Run E l at_ (.K n p c) s s
 | K4 (n:Nat) (p:Nat) (c:List Int) (s:WSt) (s':WSt) (x:PN):l[n]?=some x→x.kind=4∨x.kind=102→x.subs≠[]→Run E l at_ (.B (aR x) p c) s s'→Run E l at_ (.K n p c) s s'
 | K5 (n:Nat) (p:Nat) (c:List Int) (s:WSt) (s':WSt) (x:PN):l[n]?=some x→x.kind=5→Run E l at_ (.A x.subs p c) s s'→Run E l at_ (.K n p c) s s'
 | K7 (n:Nat) (p:Nat) (c:List Int) (s:WSt) (s':WSt) (x:PN):l[n]?=some x→x.kind=7→x.subs≠[]→Run E l at_ (.B (aR x) p (c.set (2*x.ix).toNat p)) s s'→Run E l at_ (.K n p c) s s'
 | Kq (n:Nat) (p:Nat) (c:List Int) (s:WSt) (s':WSt) (x:PN):l[n]?=some x→x.kind=103→Run E l at_ (.C n p c) s s'→Run E l at_ (.K n p c) s s'
 | Ks (n:Nat) (p:Nat) (c:List Int) (s:WSt) (s':WSt) (x:PN):l[n]?=some x→x.kind=101→Run E l at_ (.D n p c) s s'→Run E l at_ (.K n p c) s s'
 | A0 (p:Nat) (c:List Int) (s:WSt):Run E l at_ (.A [] p c) s s
 | A1 (m:Nat) (r:List Nat) (p:Nat) (c:List Int) (s:WSt) (s1:WSt) (s2:WSt):Run E l at_ (.B m p c) s s1→Run E l at_ (.A r p c) s1 s2→Run E l at_ (.A (m::r) p c) s s2
 | Cy (n:Nat) (p:Nat) (c:List Int) (s:WSt) (s1:WSt) (s2:WSt) (x:PN):l[n]?=some x→x.subs≠[]→x.lz=true→Run E l at_ (.H n p c) s s1→Run E l at_ (.B (aR x) p c) s1 s2→Run E l at_ (.C n p c) s s2
 | Cn (n:Nat) (p:Nat) (c:List Int) (s:WSt) (s1:WSt) (s2:WSt) (x:PN):l[n]?=some x→x.subs≠[]→x.lz=false→Run E l at_ (.B (aR x) p c) s s1→Run E l at_ (.H n p c) s1 s2→Run E l at_ (.C n p c) s s2
 | Dmet (n:Nat) (p:Nat) (c:List Int) (s:WSt):s.dc n p=true→Run E l at_ (.D n p c) s s
 | Dgo (n:Nat) (p:Nat) (c:List Int) (s:WSt) (s':WSt):s.dc n p=false→Run E l at_ (.C n p c) { s with dc:=bT s.dc n p } s'→Run E l at_ (.D n p c) s s'
 | Hmet (n:Nat) (p:Nat) (c:List Int) (s:WSt) (x:PN):l[n]?=some x→x.up < 0→s.en p=true→Run E l at_ (.H n p c) s s
 | Hend (n:Nat) (p:Nat) (c:List Int) (s:WSt) (x:PN):l[n]?=some x→x.up < 0→s.en p=false→Run E l at_ (.H n p c) s { s with en:=iq s.en p,out:=s.out++[(p,(c.set 0 at_).set 1 p)] }
 | H4 (n:Nat) (p:Nat) (c:List Int) (s:WSt) (s':WSt) (x:PN) (m:Nat) (y:PN):l[n]?=some x→x.up=(m:Int)→l[m]?=some y→y.kind=4→x.nth.toNat+1 < y.subs.length→Run E l at_ (.B (y.subs.getD (x.nth.toNat+1) 0) p c) s s'→Run E l at_ (.H n p c) s s'
 | H4e (n:Nat) (p:Nat) (c:List Int) (s:WSt) (s':WSt) (x:PN) (m:Nat) (y:PN):l[n]?=some x→x.up=(m:Int)→l[m]?=some y→y.kind=4→¬x.nth.toNat+1 < y.subs.length→Run E l at_ (.H m p c) s s'→Run E l at_ (.H n p c) s s'
 | H7 (n:Nat) (p:Nat) (c:List Int) (s:WSt) (s':WSt) (x:PN) (m:Nat) (y:PN):l[n]?=some x→x.up=(m:Int)→l[m]?=some y→y.kind=7→Run E l at_ (.H m p (c.set (2*y.ix+1).toNat p)) s s'→Run E l at_ (.H n p c) s s'
 | Hl (n:Nat) (p:Nat) (c:List Int) (s:WSt) (s':WSt) (x:PN) (m:Nat) (y:PN):l[n]?=some x→x.up=(m:Int)→l[m]?=some y→y.kind=101∨y.kind=102→Run E l at_ (.D m p c) s s'→Run E l at_ (.H n p c) s s'
 | Ho (n:Nat) (p:Nat) (c:List Int) (s:WSt) (s':WSt) (x:PN) (m:Nat) (y:PN):l[n]?=some x→x.up=(m:Int)→l[m]?=some y→y.kind=5∨y.kind=103→Run E l at_ (.H m p c) s s'→Run E l at_ (.H n p c) s s'
structure Le (s s':WSt):Prop where
 b:∀n p,s.bg n p=true→s'.bg n p=true
 d:∀n p,s.dc n p=true→s'.dc n p=true
 e:∀p,s.en p=true→s'.en p=true
theorem Le.refl (s:WSt):Le s s:=⟨fun _ _ h=>h,fun _ _ h=>h,fun _ h=>h⟩
theorem Le.trans {a b c:WSt} (h:Le a b) (g:Le b c):Le a c:=⟨fun n p x=>g.b n p (h.b n p x),fun n p x=>g.d n p (h.d n p x),fun p x=>g.e p (h.e p x)⟩
theorem le_bg (s:WSt) (n p:Nat):Le s { s with bg:=bT s.bg n p }:=⟨fun _ _ h=>mark2_le h,fun _ _ h=>h,fun _ h=>h⟩
theorem le_dc (s:WSt) (n p:Nat):Le s { s with dc:=bT s.dc n p }:=⟨fun _ _ h=>h,fun _ _ h=>mark2_le h,fun _ h=>h⟩
inductive Done (E:Env) (l:List PN) (s:WSt):Cf→Prop
 | B (n p):s.bg n p=true→Done E l s (.B n p)
 | D (n p):s.dc n p=true→Done E l s (.D n p)
 | E (p):s.en p=true→Done E l s (.E p)
 | H (n p):(∀c∈succs E l (.H n p),Done E l s c)→Done E l s (.H n p)
theorem Done.mono {E:Env} {l:List PN} {s s':WSt} (hl:Le s s') {c:Cf} (h:Done E l s c):Done E l s' c:=by
 induction h with
 | B n p h=>exact .B n p (hl.b n p h)
 | D n p h=>exact .D n p (hl.d n p h)
 | E p h=>exact .E p (hl.e p h)
 | H n p _ ih=>exact .H n p ih
structure NewCl (E:Env) (l:List PN) (s s':WSt):Prop where
 b:∀n p,s'.bg n p=true→s.bg n p=false→∀c∈succs E l (.B n p),Done E l s' c
 d:∀n p,s'.dc n p=true→s.dc n p=false→∀c∈succs E l (.D n p),Done E l s' c
theorem NewCl.refl (E:Env) (l:List PN) (s:WSt):NewCl E l s s:=⟨fun n p h1 h2=>(by rw[h1] at h2;cases h2),fun n p h1 h2=>by rw[h1] at h2;cases h2⟩
theorem NewCl.trans {E:Env} {l:List PN} {a b c:WSt} (h:NewCl E l a b) (g:NewCl E l b c) (hl:Le b c):NewCl E l a c:=by
 refine⟨fun n p h1 h2 q hq=>?_,fun n p h1 h2 q hq=>?_⟩
 ·cases hb:b.bg n p with
  | true=>exact(h.b n p hb h2 q hq).mono hl
  | false=>exact g.b n p h1 hb q hq
 ·cases hb:b.dc n p with
  | true=>exact(h.d n p hb h2 q hq).mono hl
  | false=>exact g.d n p h1 hb q hq
def DoneCl (E:Env) (l:List PN) (s:WSt):Cl→Prop
 | .B n p _=>Done E l s (.B n p)
 | .K n p _=>∀c∈succs E l (.B n p),Done E l s c
 | .A ms p _=>∀m∈ms,Done E l s (.B m p)
 | .C n p _=>∀c∈succs E l (.D n p),Done E l s c
 | .D n p _=>Done E l s (.D n p)
 | .H n p _=>Done E l s (.H n p)
def RchCl (E:Env) (l:List PN) (R0:Cf):Cl→Prop
 | .B n p _=>Rch E l R0 (.B n p)
 | .K n p _=>∀c∈succs E l (.B n p),Rch E l R0 c
 | .A ms p _=>∀m∈ms,Rch E l R0 (.B m p)
 | .C n p _=>∀c∈succs E l (.D n p),Rch E l R0 c
 | .D n p _=>Rch E l R0 (.D n p)
 | .H n p _=>Rch E l R0 (.H n p)
structure AllR (E:Env) (l:List PN) (R0:Cf) (s:WSt):Prop where
 b:∀n p,s.bg n p=true→Rch E l R0 (.B n p)
 d:∀n p,s.dc n p=true→Rch E l R0 (.D n p)
 e:∀p,s.en p=true→Rch E l R0 (.E p)
def OutOk (s:WSt):Prop:=∀p,s.en p=true↔∃c,(p,c)∈s.out
theorem Rch.snoc {E:Env} {l:List PN} {a b c:Cf} (h:Rch E l a b) (hc:c∈succs E l b):Rch E l a c:=h.trans (.one hc)
structure Post (E:Env) (l:List PN) (R0:Cf) (k:Cl) (s s':WSt):Prop where
 le:Le s s'
 new:NewCl E l s s'
 done:DoneCl E l s' k
 all:RchCl E l R0 k→AllR E l R0 s→AllR E l R0 s'
 out:OutOk s→OutOk s'
theorem fD {E:Env} {l:List PN} {R0:Cf} {k k':Cl} {s s':WSt} (h:Post E l R0 k' s s') (hd:DoneCl E l s' k'→DoneCl E l s' k) (hr:RchCl E l R0 k→RchCl E l R0 k'):Post E l R0 k s s' :=
 ⟨h.le,h.new,hd h.done,fun a b=>h.all (hr a) b,h.out⟩
theorem run_post {E:Env} {l:List PN} {at_:Nat} {R0:Cf} {k:Cl} {s s':WSt} (h:Run E l at_ k s s'):Post E l R0 k s s':=by
 induction h with
 | Bmet n p c s hb=>exact⟨.refl s,.refl E l s,.B n p hb,fun _ h=>h,id⟩
 | Bgo n p c s s' hb _ ih =>
  refine⟨(le_bg s n p).trans ih.le,⟨fun i j h1 h2 q hq=>?_,fun i j h1 h2 q hq=>ih.new.d i j h1 h2 q hq⟩,.B n p (ih.le.b n p (iV _ _ _)),fun hr ha=>?_,fun ho=>ih.out ho⟩
  ·cases hm:bT s.bg n p i j with
   | true =>
    rcases jK hm with⟨rfl,rfl⟩ | hm
    ·exact ih.done q hq
    ·rw[hm] at h2;cases h2
   | false=>exact ih.new.b i j h1 hm q hq
  ·refine ih.all (fun q hq=>Rch.snoc hr hq) ⟨fun i j h=>?_,ha.d,ha.e⟩
   rcases jK h with⟨rfl,rfl⟩ | h
   ·exact hr
   ·exact ha.b i j h
 | K1 n p c s s' x hx hk _ ih=>exact fD ih (fun h q hq=>by simp[succs,hx,hk] at hq;subst hq;exact h) (fun h=>h _ (by simp[succs,hx,hk]))
 | K2y n p c s s' x hx hk he _ ih=>exact fD ih (fun h q hq=>by simp[succs,hx,hk,he] at hq;subst hq;exact h) (fun h=>h _ (by simp[succs,hx,hk,he]))
 | K2n n p c s x hx hk he=>exact⟨.refl s,.refl E l s,fun q hq=>by simp[succs,hx,hk,he] at hq,fun _ h=>h,id⟩
 | K3y n p c s s' x hx hk he _ ih=>exact fD ih (fun h q hq=>by simp[succs,hx,hk,he] at hq;subst hq;exact h) (fun h=>h _ (by simp[succs,hx,hk,he]))
 | K3n n p c s x hx hk he=>exact⟨.refl s,.refl E l s,fun q hq=>by simp[succs,hx,hk,he] at hq,fun _ h=>h,id⟩
 | K4 n p c s s' x hx hk h0 _ ih =>
  have e:succs E l (.B n p)=[.B (aR x) p]:=by rcases hk with hk | hk <;> simp[succs,hx,hk]
  exact fD ih (fun h q hq=>by rw[e] at hq;simp at hq;subst hq;exact h) (fun h=>h _ (by rw[e];simp))
 | K5 n p c s s' x hx hk _ ih =>
  have e:succs E l (.B n p)=x.subs.map (fun s=>.B s p):=by simp[succs,hx,hk]
  exact fD ih (fun h q hq=>by rw[e] at hq;simp at hq;obtain⟨m,hm,rfl⟩:=hq;exact h m hm) (fun h m hm=>h _ (by rw[e];simp[hm]))
 | K7 n p c s s' x hx hk h0 _ ih =>
  have e:succs E l (.B n p)=[.B (aR x) p]:=by simp[succs,hx,hk]
  exact fD ih (fun h q hq=>by rw[e] at hq;simp at hq;subst hq;exact h) (fun h=>h _ (by rw[e];simp))
 | Kq n p c s s' x hx hk _ ih =>
  have e:succs E l (.B n p)=succs E l (.D n p):=by simp[succs,hx,hk]
  exact fD ih (fun h q hq=>h q (by rw[←e];exact hq)) (fun h q hq=>h q (by rw[e];exact hq))
 | Ks n p c s s' x hx hk _ ih =>
  have e:succs E l (.B n p)=[.D n p]:=by simp[succs,hx,hk]
  exact fD ih (fun h q hq=>by rw[e] at hq;simp at hq;subst hq;exact h) (fun h=>h _ (by rw[e];simp))
 | A0 p c s=>exact⟨.refl s,.refl E l s,fun m hm=>by simp at hm,fun _ h=>h,id⟩
 | A1 m r p c s s1 s2 _ _ ih1 ih2 =>
  exact⟨ih1.le.trans ih2.le,ih1.new.trans ih2.new ih2.le,fun q hq=>by
   rcases List.mem_cons.1 hq with rfl | hq
   ·exact Done.mono ih2.le ih1.done
   ·exact ih2.done q hq,fun hr ha=>ih2.all (fun q hq=>hr q (by simp[hq])) (ih1.all (hr m (by simp)) ha),fun ho=>ih2.out (ih1.out ho)⟩
 | Cy n p c s s1 s2 x hx h0 hz _ _ ih1 ih2 =>
  have e:succs E l (.D n p)=[.B (aR x) p,.H n p]:=by simp[succs,hx]
  exact⟨ih1.le.trans ih2.le,ih1.new.trans ih2.new ih2.le,fun q hq=>by
   rw[e] at hq
   simp at hq
   rcases hq with rfl | rfl
   ·exact ih2.done
   ·exact Done.mono ih2.le ih1.done,fun hr ha=>ih2.all (hr _ (by rw[e];simp)) (ih1.all (hr _ (by rw[e];simp)) ha),fun ho=>ih2.out (ih1.out ho)⟩
 | Cn n p c s s1 s2 x hx h0 hz _ _ ih1 ih2 =>
  have e:succs E l (.D n p)=[.B (aR x) p,.H n p]:=by simp[succs,hx]
  exact⟨ih1.le.trans ih2.le,ih1.new.trans ih2.new ih2.le,fun q hq=>by
   rw[e] at hq
   simp at hq
   rcases hq with rfl | rfl
   ·exact Done.mono ih2.le ih1.done
   ·exact ih2.done,fun hr ha=>ih2.all (hr _ (by rw[e];simp)) (ih1.all (hr _ (by rw[e];simp)) ha),fun ho=>ih2.out (ih1.out ho)⟩
 | Dmet n p c s hb=>exact⟨.refl s,.refl E l s,.D n p hb,fun _ h=>h,id⟩
 | Dgo n p c s s' hb _ ih =>
  refine⟨(le_dc s n p).trans ih.le,⟨fun i j h1 h2 q hq=>ih.new.b i j h1 h2 q hq,fun i j h1 h2 q hq=>?_⟩,.D n p (ih.le.d n p (iV _ _ _)),fun hr ha=>?_,fun ho=>ih.out ho⟩
  ·cases hm:bT s.dc n p i j with
   | true =>
    rcases jK hm with⟨rfl,rfl⟩ | hm
    ·exact ih.done q hq
    ·rw[hm] at h2;cases h2
   | false=>exact ih.new.d i j h1 hm q hq
  ·refine ih.all (fun q hq=>Rch.snoc hr hq) ⟨ha.b,fun i j h=>?_,ha.e⟩
   rcases jK h with⟨rfl,rfl⟩ | h
   ·exact hr
   ·exact ha.d i j h
 | Hmet n p c s x hx hu he=>exact⟨.refl s,.refl E l s,.H n p (fun q hq=>by simp[succs,hx,hu] at hq;subst hq;exact .E p he),fun _ h=>h,id⟩
 | Hend n p c s x hx hu he =>
  have hs:succs E l (.H n p)=[.E p]:=by simp[succs,hx,hu]
  refine⟨⟨fun _ _ h=>h,fun _ _ h=>h,fun q h=>by simp only[iq];split;rfl;exact h⟩,⟨fun i j h1 h2=>(by rw[h1] at h2;cases h2),fun i j h1 h2=>(by rw[h1] at h2;cases h2)⟩,.H n p (fun q hq=>by rw[hs] at hq;simp at hq;subst hq;exact .E p (by simp[iq])),fun hr ha=>⟨ha.b,ha.d,fun q hq=>?_⟩,fun ho q=>?_⟩
  ·simp only[iq] at hq
   split at hq
   ·rename_i h;subst h;exact Rch.snoc hr (by rw[hs];simp)
   ·exact ha.e q hq
  ·simp only[iq]
   split
   ·rename_i h
    subst h
    exact⟨fun _=>⟨_,by simp;exact .inr rfl⟩,fun _=>rfl⟩
   ·rename_i h
    rw[ho q]
    constructor
    ·rintro⟨c',hc⟩
     exact⟨c',by simp[hc]⟩
    ·rintro⟨c',hc⟩
     simp at hc
     rcases hc with hc | ⟨h2,-⟩
     ·exact⟨c',hc⟩
     ·exact absurd h2 h
 | H4 n p c s s' x m y hx hu hm hk hlt _ ih =>
  have e:succs E l (.H n p)=[.B (y.subs.getD (x.nth.toNat+1) 0) p]:=by rw[fQ hx hu hm,if_pos hk,if_pos hlt]
  exact fD ih (fun h=>.H n p (fun q hq=>by rw[e] at hq;simp only[List.mem_singleton] at hq;subst hq;exact h)) (fun h=>Rch.snoc h (by rw[e];simp))
 | H4e n p c s s' x m y hx hu hm hk hlt _ ih =>
  have e:succs E l (.H n p)=[.H m p]:=by rw[fQ hx hu hm,if_pos hk,if_neg hlt]
  exact fD ih (fun h=>.H n p (fun q hq=>by rw[e] at hq;simp at hq;subst hq;exact h)) (fun h=>Rch.snoc h (by rw[e];simp))
 | H7 n p c s s' x m y hx hu hm hk _ ih =>
  have e:succs E l (.H n p)=[.H m p]:=by rw[fQ hx hu hm,if_neg (by omega),if_pos hk]
  exact fD ih (fun h=>.H n p (fun q hq=>by rw[e] at hq;simp at hq;subst hq;exact h)) (fun h=>Rch.snoc h (by rw[e];simp))
 | Hl n p c s s' x m y hx hu hm hk _ ih =>
  have e:succs E l (.H n p)=[.D m p]:=by rw[fQ hx hu hm,if_neg (by omega),if_neg (by omega),if_pos hk]
  exact fD ih (fun h=>.H n p (fun q hq=>by rw[e] at hq;simp at hq;subst hq;exact h)) (fun h=>Rch.snoc h (by rw[e];simp))
 | Ho n p c s s' x m y hx hu hm hk _ ih =>
  have e:succs E l (.H n p)=[.H m p]:=by rw[fQ hx hu hm,if_neg (by omega),if_neg (by omega),if_neg (by omega)]
  exact fD ih (fun h=>.H n p (fun q hq=>by rw[e] at hq;simp at hq;subst hq;exact h)) (fun h=>Rch.snoc h (by rw[e];simp))
def st0:WSt:=⟨fun _ _=>false,fun _ _=>false,fun _=>false,[]⟩
end Go.Proofs.Ytnkefclbchpafaa
