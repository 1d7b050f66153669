/-
  RowT, Lay9P, Sum7, put together.
-/
import Derived.Test.YtnkefclbchpafaaZ16Loop7
import Derived.Test.YtnkefclbchpafaaZ01PlainP
import Derived.Maps.AppendAt
import Derived.Test.YtnkefclbchpafaaZ08Graph
import Derived.Test.YtnkefclbchpafaaZ14Held

/-
  A row of nodes under way, of the call's own: one more, many more. Laws at an append.
-/
namespace Go.Proofs.Ytnkefclbchpafaa
set_option maxRecDepth 100000
open Go.RowKit
set_option linter.unusedVariables false
theorem ninfo7:(Try.prog.info? 47).map (fun i=>(i.zero,i.size,i.bytes))=some (some (.agg #[.int .i64 0,.slice none 0 0,.int .i64 0,.slice none 0 0,.int .i64 0,.int .i64 0,.bool false,.int .i64 0,.string ByteArray.empty]),9,112):=by kernel_rfl
def kI (w:World) (S:Nat→Prop) (A:Option Addr) (l:List Tree):Prop :=
 ∀(i:Nat) (x:Tree),l[i]?=some x→∃ad g o cs',A=some ad∧ad.add (i*9)=⟨g,o,none⟩∧S g∧g < w.heap.size∧(∀j v,cs'[j]?=some v→w.cell? ⟨g,o+j,none⟩=some v)∧aB w S cs' x
theorem kI.upd {F:Nat→Prop} {w w':World} {S S':Nat→Prop} {A:Option Addr} {l:List Tree} (h:kI w S A l) (hU:Upd F w w') (hS:∀k,S k→S' k) (hF:∀k,S k→¬F k):kI w' S' A l:=fun i x hx=>by
 obtain⟨ad,g,o,cs',h1,h2,h3,h4,h5,h6⟩:=h i x hx
 exact⟨ad,g,o,cs',h1,h2,hS g h3,Nat.lt_of_lt_of_le h4 hU.size,fun j v hv=>(hU.cell (p:=⟨g,o+j,none⟩) h4 (hF _ h3)).trans (h5 j v hv),(h6.bA hU hF).weaken hS⟩
theorem aB.both_go {w:World} {S:Nat→Prop}:∀(n:Nat) (t:Tree) (cs:Array Value),SizeOf.sizeOf t≤n→aB w S cs t→aB w (fun k=>S k∧k < w.heap.size) cs t
 | 0,t,cs,hn,h=>by obtain⟨k,r,a,l,m,x,z,i,nn⟩:=t;simp at hn
 | n+1,t,cs,hn,h=>by
  rw[aB] at h ⊢
  obtain⟨RA,rc,SA,sc,hc,hr,ho,hs⟩:=h
  refine⟨RA,rc,SA,sc,hc,⟨⟨hr.r.1,fun hn=>by obtain⟨ad,e,hb,hs,hc⟩:=hr.r.2 hn;exact⟨ad,e,hb,⟨hs,hb⟩,hc⟩⟩,hr.i,hr.n⟩,ho,fun i hi=>?_⟩
  obtain⟨ad,g,o,cs',h1,h2,h3,h4,h5,h6⟩:=hs i hi
  exact⟨ad,g,o,cs',h1,h2,⟨h3,h4⟩,h4,h5,aB.both_go n _ _ (by have:=Tree.sub_lt (List.getElem_mem hi);omega) h6⟩
theorem aB.both {w:World} {S:Nat→Prop} {cs:Array Value} {t:Tree} (h:aB w S cs t):aB w (fun k=>S k∧k < w.heap.size) cs t:=aB.both_go _ t cs (Nat.le_refl _) h
theorem kI.both {w:World} {S:Nat→Prop} {A:Option Addr} {l:List Tree} (h:kI w S A l):kI w (fun k=>S k∧k < w.heap.size) A l:=fun i x hx=>by
 obtain⟨ad,g,o,cs',h1,h2,h3,h4,h5,h6⟩:=h i x hx
 exact⟨ad,g,o,cs',h1,h2,⟨h3,h4⟩,h4,h5,h6.both⟩
theorem aB.nine {w:World} {S:Nat→Prop} {cs:Array Value} {t:Tree} (h:aB w S cs t):cs.size=9∧∀u∈cs.toList,u.oneCell'=true:=by
 obtain⟨RA,rc,SA,sc,rfl,-⟩:=h.top
 refine⟨rfl,fun u hu=>?_⟩
 simp[au] at hu
 rcases hu with rfl | rfl | rfl | rfl | rfl | rfl | rfl | rfl | rfl <;> rfl
def jP (css:List (Array Value)):List Value:=css.flatMap (·.toList)
theorem flatC_len:∀(css:List (Array Value)),(∀cs∈css,cs.size=9)→(jP css).length=css.length*9
 | [],_=>rfl
 | cs::css,h=>by
  have h1:=flatC_len css (fun c hc=>h c (by simp[hc]))
  have h2:=h cs (by simp)
  unfold jP at h1 ⊢
  rw[List.flatMap_cons,List.length_append,h1]
  simp[h2]
  omega
theorem flatC_at:∀(css:List (Array Value)),(∀cs∈css,cs.size=9)→∀(i:Nat) (cs:Array Value) (j:Nat),css[i]?=some cs→j < 9→(jP css)[i*9+j]?=cs[j]?
 | [],_,i,cs,j,hi,_=>by simp at hi
 | c::css,h,0,cs,j,hi,hj=>by
  have h2:=h c (by simp)
  simp at hi
  subst hi
  unfold jP
  rw[List.flatMap_cons,List.getElem?_append_left (by simp[h2];omega)]
  simp
 | c::css,h,i+1,cs,j,hi,hj=>by
  have h2:=h c (by simp)
  have:=flatC_at css (fun c hc=>h c (by simp[hc])) i cs j (by simpa using hi) hj
  unfold jP at this ⊢
  rw[List.flatMap_cons,List.getElem?_append_right (by simp[h2];omega)]
  rw[show(i+1)*9+j - c.toList.length=i*9+j by simp[h2];omega]
  exact this
theorem flatC_one {css:List (Array Value)} (h:∀cs∈css,∀u∈cs.toList,u.oneCell'=true):∀u∈jP css,u.oneCell'=true:=fun u hu=>by
 unfold jP at hu
 rw[List.mem_flatMap] at hu
 obtain⟨cs,hc,hu⟩:=hu
 exact h cs hc u hu
theorem pick_list {α β:Type} (P:Nat→α→β→Prop):∀(l:List α),(∀i x,l[i]?=some x→∃b,P i x b)→∃bs:List β,bs.length=l.length∧∀i x b,l[i]?=some x→bs[i]?=some b→P i x b
 | [],_=>⟨[],rfl,fun i x b h=>by simp at h⟩
 | x::l,h=>by
  obtain⟨b,hb⟩:=h 0 x rfl
  obtain⟨bs,h1,h2⟩:=pick_list (fun i=>P (i+1)) l (fun i y hy=>h (i+1) y (by simpa using hy))
  refine⟨b::bs,by simp[h1],fun i y c hy hc=>?_⟩
  cases i with
  | zero =>
   simp at hy hc
   subst hy hc
   exact hb
  | succ i=>exact h2 i y c (by simpa using hy) (by simpa using hc)
def TB (base:Nat) (S:Nat→Prop) (own:Option Nat) (b:Nat):Prop:=(S b∧b < base)∨(base≤b∧own≠some b)
structure iD (w:World) (base:Nat) (S:Nat→Prop) (A:Option Addr) (c:Nat) (l:List Tree):Prop where
 lo:base≤w.heap.size
 row:∃css:List (Array Value),css.length=l.length∧w.ownsRow base 47 9 (.slice A l.length c) l.length (jP css) ∧
  ∀(i:Nat) (cs:Array Value) (x:Tree),css[i]?=some cs→l[i]?=some x→aB w (TB base S (Value.slice A l.length c).ownBlock) cs x
theorem iD.nil {w:World} {base:Nat} {S:Nat→Prop} (h:base≤w.heap.size):iD w base S none 0 []:=⟨h,[],rfl,World.ownsRow_nil _ _ _ _,fun i cs x hc=>by simp at hc⟩
theorem iD.upd {F:Nat→Prop} {w w':World} {base:Nat} {S:Nat→Prop} {A:Option Addr} {c:Nat} {l:List Tree} (h:iD w base S A c l) (hU:Upd F w w') (hF:∀b,F b→b < base∧¬S b):iD w' base S A c l:=by
 obtain⟨lo,css,h1,h2,h3⟩:=h
 refine⟨Nat.le_trans lo hU.size,css,h1,aJ h2 hU (fun k hk e=>?_),fun i cs x hc hx=>(h3 i cs x hc hx).bA hU (fun b hb e=>?_)⟩
 ·have:=(hF k e).1
  rcases h2.2 with⟨h0,-⟩ | ⟨g,cap,cur,h0,hb,-⟩
  ·rw[h0] at hk;simp[Value.ownBlock] at hk
  ·rw[h0] at hk;simp[Value.ownBlock] at hk;omega
 ·have:=hF b e
  rcases hb with hb | hb
  ·exact this.2 hb.1
  ·omega
theorem iD.own_lo {w:World} {base:Nat} {S:Nat→Prop} {A:Option Addr} {c:Nat} {l:List Tree} (h:iD w base S A c l) {g:Nat} (hg:(Value.slice A l.length c).ownBlock=some g):base≤g∧g < w.heap.size:=by
 obtain⟨lo,css,h1,h2,h3⟩:=h
 rcases h2.2 with⟨h0,-⟩ | ⟨g',cap,cur,h0,hb,hh,-⟩
 ·rw[h0] at hg;simp[Value.ownBlock] at hg
 ·rw[h0] at hg
  simp[Value.ownBlock] at hg
  subst hg
  exact⟨hb,(Array.getElem?_eq_some_iff.1 hh).1⟩
theorem iD.fresh {w:World} {base:Nat} {S S':Nat→Prop} {A:Option Addr} {c:Nat} {l:List Tree} (h:iD w base S A c l) (hS:∀b,S' b→TB base S (Value.slice A l.length c).ownBlock b) {w':World} {cs:Array Value} {t:Tree} (ht:aB w' (fun b=>S' b∨w.heap.size≤b) cs t):aB w' (TB base S (Value.slice A l.length c).ownBlock) cs t :=
 ht.weaken fun b hb=>by
  rcases hb with hb | hb
  ·exact hS b hb
  ·exact .inr ⟨Nat.le_trans h.lo hb,fun e=>by have:=(h.own_lo e).2;omega⟩
theorem iD.more {w w':World} {base:Nat} {S:Nat→Prop} {A:Option Addr} {c:Nat} {l xs:List Tree} (h:iD w base S A c l) {css:List (Array Value)} (hcs:css.length=l.length) (hrow:∀(i:Nat) (cs:Array Value) (x:Tree),css[i]?=some cs→l[i]?=some x→aB w (TB base S (Value.slice A l.length c).ownBlock) cs x)
  {new:List (Array Value)} (hn:new.length=xs.length) (hx:∀(i:Nat) (cs:Array Value) (x:Tree),new[i]?=some cs→xs[i]?=some x→aB w (TB base S (Value.slice A l.length c).ownBlock) cs x)
  {v':Value} (hown:w'.ownsRow base 47 9 v' (l.length+xs.length) (jP css++jP new)) (hg:w.grownBy w' (Value.slice A l.length c).ownBlock) (hat:v'.ownBlock=(Value.slice A l.length c).ownBlock∨v'.ownBlock=some w.heap.size) :
  ∃A' c',v'=.slice A' (l++xs).length c'∧iD w' base S A' c' (l++xs)∧Upd (fun b=>base≤b) w w':=by
 obtain⟨A',c',rfl⟩:=dG hown
 have hU:Upd (fun b=>(Value.slice A l.length c).ownBlock=some b) w w':=(Upd.refl _ w).grown hg (fun b hb _=>hb)
 have hnot:∀b,TB base S (Value.slice A l.length c).ownBlock b→¬(Value.slice A l.length c).ownBlock=some b:=fun b hb e=>by
  rcases hb with hb | hb
  ·have:=(h.own_lo e).1;omega
  ·exact hb.2 e
 have hmv:∀cs x,aB w (TB base S (Value.slice A l.length c).ownBlock) cs x→aB w' (TB base S (Value.slice A' (l.length+xs.length) c').ownBlock) cs x:=fun cs x hN=>by
  refine(hN.both.bA hU (fun b hb=>hnot b hb.1)).weaken fun b hb=>?_
  rcases hb.1 with h1 | h1
  ·exact .inl h1
  ·refine .inr ⟨h1.1,fun e=>?_⟩
   rcases hat with h2 | h2
   ·rw[h2] at e;exact h1.2 e
   ·rw[h2] at e;injection e with e;have:=hb.2;omega
 refine⟨A',c',by simp,⟨Nat.le_trans h.lo hU.size,css++new,by simp[hcs,hn],?_,fun i cs x hc hx2=>?_⟩,hU.mono fun b _ e=>(h.own_lo e).1⟩
 ·rw[List.length_append]
  unfold jP at hown ⊢
  rw[List.flatMap_append]
  exact hown
 ·rw[List.length_append]
  by_cases hi:i < l.length
  ·rw[List.getElem?_append_left hi] at hx2
   rw[List.getElem?_append_left (by omega)] at hc
   exact hmv _ _ (hrow i cs x hc hx2)
  ·rw[List.getElem?_append_right (by omega)] at hx2
   rw[List.getElem?_append_right (by omega),hcs] at hc
   exact hmv _ _ (hx _ cs x hc hx2)
section
variable {w : World} {base : Nat} {S : Nat → Prop} {A : Option Addr} {c : Nat} {l : List Tree} {ops : Array Oper} {rest : List Oper} {o : Oper} {a : Act} {Q : Exit → Act → World → Prop}
theorem iU (hgd:o.guard=none) (s x:Operand) (ho:o.op=.call { callee:=.builtin .append,args:=#[s,x],argTypes:=#[45, 45] })
  {g:Nat} {cs:Array Value} {y:Tree} (hs:a.eval s=.slice A l.length c) (hx:a.eval x=.slice (some ⟨g,0,none⟩) 1 1) (hR:iD w base S A c l) (hc:Cells w g 47 cs) (hy:aB w (TB base S (Value.slice A l.length c).ownBlock) cs y) (hl:l.length≤1000000)
  (h:∀A' c' w',iD w' base S A' c' (l++[y])→Upd (fun b=>base≤b) w w'→wpList Try.prog ops Q rest (a.put o.dst (.slice A' (l++[y]).length c')) w'):wpList Try.prog ops Q (o::rest) a w:=by
 obtain⟨i0,hi0,hz0,hz1,hz2⟩:=info_parts ninfo7
 obtain⟨lo,css,h1,h2,h3⟩:=hR
 obtain⟨n9,none_⟩:=hy.nine
 refine wpList_append_own_at w hgd s x 45 ho base 47 i0 _ 9 112 Try.underlying45 hi0 hz0 hz1 hz2 rfl (by decide) _ _ _ hs h2 ⟨g,0,none⟩ 1 1 cs.toList hx (by simp[n9]) (fun j u hu=>?_) none_ (by unfold maxLen;omega) (by omega) lo ?_
 ·rw[bX,Nat.zero_add]
  exact hc.ak (by simpa using hu)
 intro v' w' hown hg _ hat
 obtain⟨A',c',rfl,hR',hU⟩:=iD.more (xs:=[y]) (new:=[cs]) ⟨lo,css,h1,h2,h3⟩ h1 h3 rfl (fun i cs' x hc' hx'=>by
  cases i with
  | zero =>
   simp at hc' hx'
   subst hc' hx'
   exact hy
  | succ i=>simp at hx') (by simpa [jP] using hown) hg hat
 exact h A' c' w' hR' hU
theorem push_nodes (hgd:o.guard=none) (s x:Operand) (ho:o.op=.call { callee:=.builtin .append,args:=#[s,x],argTypes:=#[45, 45] })
  {XA:Option Addr} {xc:Nat} {xs:List Tree} (hs:a.eval s=.slice A l.length c) (hx:a.eval x=.slice XA xs.length xc) (hR:iD w base S A c l) (hX:kI w (TB base S (Value.slice A l.length c).ownBlock) XA xs) (hl:l.length+xs.length≤1000000)
  (h:∀A' c' w',iD w' base S A' c' (l++xs)→Upd (fun b=>base≤b) w w'→wpList Try.prog ops Q rest (a.put o.dst (.slice A' (l++xs).length c')) w'):wpList Try.prog ops Q (o::rest) a w:=by
 obtain⟨i0,hi0,hz0,hz1,hz2⟩:=info_parts ninfo7
 obtain⟨lo,css,h1,h2,h3⟩:=hR
 obtain⟨new,hn,hp⟩:=pick_list (fun i y cs'=>∃ad g o,XA=some ad∧ad.add (i*9)=⟨g,o,none⟩∧TB base S (Value.slice A l.length c).ownBlock g∧g < w.heap.size∧(∀j v,cs'[j]?=some v→w.cell? ⟨g,o+j,none⟩=some v)∧aB w (TB base S (Value.slice A l.length c).ownBlock) cs' y) xs (fun i y hy=>by
  obtain⟨ad,g,o,cs',k⟩:=hX i y hy
  exact⟨cs',ad,g,o,k⟩)
 have hat_:∀(i:Nat) (cs:Array Value),new[i]?=some cs→∃y,xs[i]?=some y:=fun i cs hc=>⟨_,List.getElem?_eq_getElem (by rw[←hn];exact(List.getElem?_eq_some_iff.1 hc).1)⟩
 have hnode:∀(i:Nat) (cs:Array Value) (y:Tree),new[i]?=some cs→xs[i]?=some y→aB w (TB base S (Value.slice A l.length c).ownBlock) cs y:=fun i cs y hc hy=>by
  obtain⟨ad,g,o,k1,k2,k3,k4,k5,k6⟩:=hp i y cs hy hc
  exact k6
 have hnine:∀cs∈new,cs.size=9∧∀u∈cs.toList,u.oneCell'=true:=fun cs hc=>by
  obtain⟨i,hi⟩:=List.mem_iff_getElem?.1 hc
  obtain⟨y,hy⟩:=hat_ i cs hi
  exact(hnode i cs y hi hy).nine
 have hlen:=flatC_len new (fun cs hc=>(hnine cs hc).1)
 have hreads:Reads w (fun _=>True) 9 XA xs.length (jP new):=by
  refine⟨by rw[hlen,hn],fun hpos=>?_⟩
  obtain⟨ad,g0,o0,cs0,hA0,-⟩:=hX 0 _ (List.getElem?_eq_getElem hpos)
  have key:∀j u,(jP new)[j]?=some u→ad.block < w.heap.size∧w.cell? (ad.add j)=some u:=fun j u hu=>by
   have hj:=(List.getElem?_eq_some_iff.1 hu).1
   rw[hlen,hn] at hj
   have hi:j / 9 < xs.length:=by omega
   have hin:j / 9 < new.length:=by omega
   obtain⟨ad',g,o,k1,k2,k3,k4,k5,k6⟩:=hp (j / 9) _ _ (List.getElem?_eq_getElem hi) (List.getElem?_eq_getElem hin)
   rw[hA0] at k1
   injection k1 with k1
   subst k1
   have e:=flatC_at new (fun cs hc=>(hnine cs hc).1) (j / 9) _ (j % 9) (List.getElem?_eq_getElem hin) (by omega)
   rw[show j / 9*9+j % 9=j by omega,hu] at e
   have e2:=k5 _ _ e.symm
   have e3:ad.add j=⟨g,o+j % 9,none⟩:=by
    rw[show j=j / 9*9+j % 9 by omega,←add_add_,k2,bX]
    congr 2
    omega
   have eb:ad.block=g:=by
    have:=add_block ad (j / 9*9)
    rw[k2] at this
    exact this.symm
   exact⟨by omega,by rw[e3];exact e2⟩
  have h0:=key 0 _ (List.getElem?_eq_getElem (by rw[hlen,hn];omega))
  exact⟨ad,hA0,h0.1,trivial,fun j u hu=>(key j u hu).2⟩
 refine dS hgd s x 45 ho base 47 i0 _ 9 112 Try.underlying45 hi0 hz0 hz1 hz2 rfl (by decide) _ _ _ hs h2 (fun _=>True) XA xs.length xc (jP new) hx hreads (flatC_one fun cs hc=>(hnine cs hc).2) (by unfold maxLen;omega) (by omega) lo ?_
 intro v' w' hown hg hat
 obtain⟨A',c',rfl,hR',hU⟩:=iD.more (xs:=xs) (new:=new) ⟨lo,css,h1,h2,h3⟩ h1 h3 hn hnode hown hg hat
 exact h A' c' w' hR' hU
end
theorem iD.subs {w:World} {base:Nat} {S S':Nat→Prop} {A:Option Addr} {c:Nat} {l:List Tree} (h:iD w base S A c l) (hS:∀b,S b→S' b) (hb:∀b,base≤b→S' b):kI w S' A l:=fun i x hx=>by
 obtain⟨lo,css,h1,h2,h3⟩:=h
 have hi:=(List.getElem?_eq_some_iff.1 hx).1
 have hcx:=List.getElem?_eq_getElem (show i < css.length by omega)
 have hN:=h3 i _ x hcx hx
 have h9:∀cs∈css,cs.size=9:=fun cs hc=>by
  obtain⟨k,hk⟩:=List.mem_iff_getElem?.1 hc
  have hkl:k < l.length:=by have:=(List.getElem?_eq_some_iff.1 hk).1;omega
  exact(h3 k cs _ hk (List.getElem?_eq_getElem hkl)).nine.1
 rcases h2.2 with⟨-,h0⟩ | ⟨g,cap,cur,h0,hgb,hh,-⟩
 ·omega
 ·injection h0 with h0 h0n h0c
  subst h0
  have hr:=Reads.eU h2
  obtain⟨ad,ea,hb1,-,hc⟩:=hr.2 (by omega)
  injection ea with ea
  subst ea
  refine⟨_,g,i*9,_,rfl,by rw[bX,Nat.zero_add],hb g hgb,hb1,fun j v hv=>?_,hN.weaken fun b hb'=>?_⟩
  ·have hj:j < 9:=by
    have:=(Array.getElem?_eq_some_iff.1 hv).1
    have:=hN.nine.1
    omega
   have e:=flatC_at css h9 i _ j hcx hj
   have:=hc (i*9+j) v (by rw[e];exact hv)
   rw[bX,Nat.zero_add] at this
   exact this
  ·rcases hb' with hb' | hb'
   ·exact hS b hb'.1
   ·exact hb b hb'.1
end Go.Proofs.Ytnkefclbchpafaa

/-
  A program under way (heronref09's row): what is laid down, one step behind the other; numbers that are put in later.
-/
namespace Go.Proofs.Ytnkefclbchpafaa
set_option maxRecDepth 100000
open Go.RowKit
set_option linter.unusedVariables false
structure eZ (w:World) (base rb:Nat) (A:Option Addr) (w':World) (A':Option Addr) (c':Nat) (is':List av) (gs':List (Option Addr × Nat)):Prop where
 r:fC w' base rb A' c' is' gs'
 u:Upd (fun b=>b=rb∨A.map (·.block)=some b) w w'
 n:∀b,A'.map (·.block)=some b→A.map (·.block)=some b∨w.heap.size≤b
def LayAns (w:World) (base rb:Nat) (A:Option Addr) (is':List av) (e:Ending) (w':World):Prop:=(∃v,e=.returned v)∧∃A' c' gs',eZ w base rb A w' A' c' is' gs'
theorem fC.upd {F:Nat→Prop} {w w':World} {base rb c:Nat} {A:Option Addr} {is:List av} {gs:List (Option Addr × Nat)} (h:fC w base rb A c is gs) (hU:Upd F w w') (hF:∀b,b=rb∨base≤b→¬F b):fC w' base rb A c is gs :=
 ⟨h.box.upd hU (hF _ (.inl rfl)),h.prog.upd hU (fun b hb=>hF b (.inr hb)),h.lo,Nat.le_trans h.hi hU.size,h.few⟩
theorem fC.nob {w w':World} {base rb c:Nat} {A:Option Addr} {is:List av} {gs:List (Option Addr × Nat)} (h:fC w base rb A c is gs) (hU:Upd Nob w w'):fC w' base rb A c is gs:=h.upd hU (fun _ _=>aj)
theorem fC.own_lo_ {w:World} {base rb c:Nat} {A:Option Addr} {is:List av} {gs:List (Option Addr × Nat)} (h:fC w base rb A c is gs) {b:Nat} (hb:A.map (·.block)=some b):base≤b:=own_lo h.prog.row (fP.2 hb)
theorem fC.jE {w:World} {base rb c bx:Nat} {A:Option Addr} {is:List av} {gs:List (Option Addr × Nat)} {T:TypeId} {cs:Array Value} (h:fC w base rb A c is gs) (hc:Cells w bx T cs) (hT : 64≠T):A.map (·.block)≠some bx:=fun e=>own_ne h.prog.row hc hT (fP.2 e)
theorem eZ.refl {w:World} {base rb c:Nat} {A:Option Addr} {is:List av} {gs:List (Option Addr × Nat)} (h:fC w base rb A c is gs):eZ w base rb A w A c is gs:=⟨h,Upd.refl _ _,fun _ h=>.inl h⟩
theorem eZ.trans {w w1 w2:World} {base rb c1 c2:Nat} {A A1 A2:Option Addr} {is1 is2:List av} {gs1 gs2:List (Option Addr × Nat)} (h:eZ w base rb A w1 A1 c1 is1 gs1) (g:eZ w1 base rb A1 w2 A2 c2 is2 gs2):eZ w base rb A w2 A2 c2 is2 gs2 :=
 ⟨g.r,h.u.trans g.u (fun k hk e=>e.elim .inl (fun e=>(h.n k e).elim .inr (fun e=>by omega))),fun b hb=>(g.n b hb).elim (fun e=>h.n b e) (fun e=>.inr (Nat.le_trans h.u.size e))⟩
theorem eZ.nob {w w1 w2:World} {base rb c1:Nat} {A A1:Option Addr} {is1:List av} {gs1:List (Option Addr × Nat)} (h:eZ w base rb A w1 A1 c1 is1 gs1) (hU:Upd Nob w1 w2):eZ w base rb A w2 A1 c1 is1 gs1 :=
 ⟨h.r.nob hU,h.u.trans hU (fun _ _ e=>absurd e aj),h.n⟩
theorem eZ.keep {w w':World} {base rb c c' bx:Nat} {A A':Option Addr} {is is':List av} {gs gs':List (Option Addr × Nat)} {T:TypeId} {cs:Array Value} (h:eZ w base rb A w' A' c' is' gs') (h0:fC w base rb A c is gs) (hc:Cells w bx T cs) (hT : 64≠T) (hb:bx≠rb):Cells w' bx T cs :=
 hc.upd h.u (fun e=>e.elim hb (h0.jE hc hT))
theorem eZ.node {w w':World} {base rb c c':Nat} {A A':Option Addr} {is is':List av} {gs gs':List (Option Addr × Nat)} {S:Nat→Prop} {cs:Array Value} {t:Tree} (h:eZ w base rb A w' A' c' is' gs') (h0:fC w base rb A c is gs) (hN:aB w S cs t) (hS:∀b,S b→b < base∧b≠rb):aB w' S cs t :=
 hN.bA h.u (fun b hb e=>e.elim (hS b hb).2 (fun e=>by have:=h0.own_lo_ e;have:=(hS b hb).1;omega))
theorem eZ.cell_ {w w':World} {base rb c c' g:Nat} {A A':Option Addr} {is is':List av} {gs gs':List (Option Addr × Nat)} (h:eZ w base rb A w' A' c' is' gs') (h0:fC w base rb A c is gs) (hg:g < w.heap.size) (hS:g < base∧g≠rb) (j:Nat):w'.cell? ⟨g,j,none⟩=w.cell? ⟨g,j,none⟩ :=
 h.u.cell (p:=⟨g,j,none⟩) hg (fun e=>e.elim hS.2 (fun e=>by have h1:=h0.own_lo_ e;have e1:(⟨g,j,none⟩:Addr).block=g:=rfl;omega))
theorem fC.ints {F:Nat→Prop} {w w':World} {base rb c:Nat} {A:Option Addr} {is:List av} {gs:List (Option Addr × Nat)} (h:fC w base rb A c is gs) (hU:Upd F w w') (hF:∀b,F b→∃cs,Cells w b 3 cs):fC w' base rb A c is gs :=
 ⟨h.box.upd hU (fun e=>by obtain⟨cs,hc⟩:=hF _ e;exact Cells.ne_ h.box hc (by decide) rfl),
   ⟨h.prog.len,aJ h.prog.row hU (fun b hb e=>by obtain⟨cs,hc⟩:=hF _ e;exact own_ne h.prog.row hc (by decide) hb),fun i x B cc hx hg=>aJ (h.prog.own i x B cc hx hg) hU (fun b hb e=>by obtain⟨cs,hc⟩:=hF _ e;exact own_ne (h.prog.own i x B cc hx hg) hc (by decide) hb),h.prog.apart⟩,h.lo,Nat.le_trans h.hi hU.size,h.few⟩
theorem eZ.ints {F:Nat→Prop} {w0 w w':World} {base rb c':Nat} {A A':Option Addr} {is':List av} {gs':List (Option Addr × Nat)} (h:eZ w0 base rb A w A' c' is' gs') (hU:Upd F w w') (hF:∀b,F b→w0.heap.size≤b∧∃cs,Cells w b 3 cs):eZ w0 base rb A w' A' c' is' gs' :=
 ⟨h.r.ints hU (fun b e=>(hF b e).2),h.u.trans hU (fun k hk e=>by have:=(hF k e).1;omega),h.n⟩
theorem eZ.own_int {w w':World} {base rb c c' b0 n:Nat} {A A':Option Addr} {is is':List av} {gs gs':List (Option Addr × Nat)} {v:Value} {xs:List Value} (h:eZ w base rb A w' A' c' is' gs') (h0:fC w base rb A c is gs) (ho:w.ownsRow b0 3 1 v n xs):w'.ownsRow b0 3 1 v n xs :=
 aJ ho h.u (fun b hb e=>e.elim (fun e=>by subst e;exact own_ne ho h0.box (by decide) hb) (fun e=>by
  obtain⟨cur,hc,-⟩:=aK h0.prog.row (fP.2 e)
  exact own_ne ho hc (by decide) hb))
section
variable {w : World} {base : Nat} {A : Option Addr} {n c : Nat} {ops : Array Oper} {rest : List Oper} {o : Oper} {a : Act} {Q : Exit → Act → World → Prop}
theorem push_int9 (hgd:o.guard=none) (s x:Operand) (ho:o.op=.call { callee:=.builtin .append,args:=#[s,x],argTypes:=#[28, 28] })
  {g:Nat} {xs:List Int} {v:Int} (hs:a.eval s=.slice A n c) (hx:a.eval x=.slice (some ⟨g,0,none⟩) 1 1) (hR:w.ownsRow base 3 1 (.slice A n c) n (bn xs)) (hc:Cells w g 3 #[.int .i64 v]) (hb:base≤w.heap.size) (hl:n≤1000000)
  (h:∀A' c' w',w'.ownsRow base 3 1 (.slice A' (n+1) c') (n+1) (bn (xs++[v]))→Upd (fun b=>(Value.slice A n c).ownBlock=some b) w w'→wpList Try.prog ops Q rest (a.put o.dst (.slice A' (n+1) c')) w'):wpList Try.prog ops Q (o::rest) a w:=by
 obtain⟨i0,hi0,hz0,hz1,hz2⟩:=info_parts iw
 refine wpList_append_own_at w hgd s x 28 ho base 3 i0 (.int .i64 0) 1 8 Try.underlying28 hi0 hz0 hz1 hz2 rfl (by decide) _ _ _ hs hR ⟨g,0,none⟩ 1 1 [.int .i64 v] hx rfl (fun j u hu=>?_) (fun u hu=>by simp at hu;subst hu;rfl) (by unfold maxLen;omega) (by omega) hb ?_
 ·rw[bX,Nat.zero_add]
  exact hc.ak (by simpa using hu)
 intro v' w' hown hg _ _
 obtain⟨A',c',rfl⟩:=dG hown
 exact h A' c' w' (by simpa [bn] using hown) ((Upd.refl _ w).grown hg (fun b hb _=>hb))
end
theorem fG {w:World} {base rb c:Nat} {A:Option Addr} {is:List av} {gs:List (Option Addr × Nat)} (h:fC w base rb A c is gs) (hl:is.length < 1000000) (op arg:Int) :
  Calls Try.prog 40 #[.pointer (some ⟨rb,0,none⟩),.int .i64 op,.int .i64 arg] w fun e w'=>e=.returned (.int .i64 (is.length:Int))∧∃A' c' gs',eZ w base rb A w' A' c' (is++[aT op arg ((is.length:Int)+1) 0 []]) gs':=by
 refine(put9_any h op arg).mono ?_
 rintro e w' ⟨rfl,A',c',hb,hp,hu,hn⟩
 refine⟨rfl,A',c',_,⟨?_,hp,h.lo,Nat.le_trans h.hi hu.size,by simp;omega⟩,hu.mono (fun b _ e=>e.imp id (fun e=>fP.1 e)),hn⟩
 rw[List.length_append]
 exact hb
theorem fC.some_ {w:World} {base rb c:Nat} {A:Option Addr} {is:List av} {gs:List (Option Addr × Nat)} (h:fC w base rb A c is gs) (hn:0 < is.length):∃g,A=some ⟨g,0,none⟩∧base≤g∧g < w.heap.size:=by
 rcases h.prog.row.2 with⟨-,h0⟩ | ⟨g,cap,cur,hv,hb,hg,-⟩
 ·omega
 ·injection hv with hv
  exact⟨g,hv,hb,(Array.getElem?_eq_some_iff.1 hg).1⟩
theorem flatI_at9:∀(is:List av) (gs:List (Option Addr × Nat)) (i:Nat) (x:av) (B:Option Addr) (cc:Nat),is[i]?=some x→gs[i]?=some (B,cc)→∀j v,(dx x B x.rs.length cc)[j]?=some v→(jW is gs)[i*5+j]?=some v
 | [],_,i,x,B,cc,hx,_,j,v,_=>by simp at hx
 | _::_,[],i,x,B,cc,_,hg,j,v,_=>by simp at hg
 | y::is,(B',c')::gs,0,x,B,cc,hx,hg,j,v,hv=>by
  simp only[List.getElem?_cons_zero,Option.some.injEq,Prod.mk.injEq] at hx hg
  obtain⟨rfl,rfl⟩:=hg
  subst hx
  have hj:j < 5:=(Array.getElem?_eq_some_iff.1 hv).1
  unfold jW
  rw[List.getElem?_append_left (by simp[dx];omega)]
  simpa using hv
 | y::is,(B',c')::gs,i+1,x,B,cc,hx,hg,j,v,hv=>by
  simp only[List.getElem?_cons_succ] at hx hg
  unfold jW
  rw[List.getElem?_append_right (by simp[dx];omega)]
  have:=flatI_at9 is gs i x B cc hx hg j v hv
  rw[←this]
  congr 1
  simp[dx]
  omega
theorem flatI_set:∀(is:List av) (gs:List (Option Addr × Nat)) (i:Nat) (x y:av) (B B':Option Addr) (cc cc':Nat) (j:Nat) (v:Value),is[i]?=some x→gs[i]?=some (B,cc)→j < 5→(dx y B' y.rs.length cc').toList=(dx x B x.rs.length cc).toList.set j v →
  jW (is.set i y) (gs.set i (B',cc'))=(jW is gs).set (i*5+j) v
 | [],_,i,x,y,B,B',cc,cc',j,v,hx,_,_,_=>by simp at hx
 | _::_,[],i,x,y,B,B',cc,cc',j,v,_,hg,_,_=>by simp at hg
 | z::is,(C,d)::gs,0,x,y,B,B',cc,cc',j,v,hx,hg,hj,he=>by
  simp only[List.getElem?_cons_zero,Option.some.injEq,Prod.mk.injEq] at hx hg
  obtain⟨rfl,rfl⟩:=hg
  subst hx
  simp only[List.set_cons_zero,jW]
  rw[he,List.set_append,if_pos (by simp[dx];omega)]
  simp
 | z::is,(C,d)::gs,i+1,x,y,B,B',cc,cc',j,v,hx,hg,hj,he=>by
  simp only[List.getElem?_cons_succ] at hx hg
  simp only[List.set_cons_succ,jW]
  rw[flatI_set is gs i x y B B' cc cc' j v hx hg hj he,List.set_append,if_neg (by simp[dx];omega)]
  congr 2
  simp[dx]
  omega
theorem set_same {α:Type} (l:List α) (i:Nat) (x:α) (h:l[i]?=some x):l.set i x=l:=by
 apply List.ext_getElem?
 intro j
 rw[List.getElem?_set]
 by_cases hj:i=j
 ·subst hj
  rw[if_pos rfl,if_pos (List.getElem?_eq_some_iff.1 h).1,h]
 ·rw[if_neg hj]
section
variable {w : World} {base rb c g n : Nat} {is : List av} {gs : List (Option Addr × Nat)} {x : av}
theorem fC.gs_at (h:fC w base rb (some ⟨g,0,none⟩) c is gs) (hx:is[n]?=some x):∃B cc,gs[n]?=some (B,cc):=⟨_,_,List.getElem?_eq_getElem (by rw[h.prog.len];exact(List.getElem?_eq_some_iff.1 hx).1)⟩
theorem fC.cells (h:fC w base rb (some ⟨g,0,none⟩) c is gs) (hx:is[n]?=some x):w.cell? ⟨g,n*5,none⟩=some (.int .i64 x.op)∧w.cell? ⟨g,n*5+1,none⟩=some (.int .i64 x.x)∧w.cell? ⟨g,n*5+2,none⟩=some (.int .i64 x.y)∧w.cell? ⟨g,n*5+3,none⟩=some (.int .i64 x.arg)∧∃v,w.cell? ⟨g,n*5+4,none⟩=some v:=by
 obtain⟨B,cc,hg⟩:=h.gs_at hx
 obtain⟨ad,e,-,-,hc⟩:=(Reads.eU h.prog.row).2 (by have:=(List.getElem?_eq_some_iff.1 hx).1;omega)
 injection e with e
 subst e
 have key:∀j v,(dx x B x.rs.length cc)[j]?=some v→w.cell? ⟨g,n*5+j,none⟩=some v:=fun j v hv=>by
  have:=hc _ v (flatI_at9 is gs n x B cc hx hg j v hv)
  rwa [bX,Nat.zero_add] at this
 exact⟨key 0 _ rfl,key 1 _ rfl,key 2 _ rfl,key 3 _ rfl,_,key 4 _ rfl⟩
theorem fC.thaw (h:fC w base rb (some ⟨g,0,none⟩) c is gs) (i:Nat):w.frozen? ⟨g,i,none⟩=false:=by
 obtain⟨cur,hc,-⟩:=aK h.prog.row (g:=g) rfl
 exact hc.frozen i
theorem fC.ne_box (h:fC w base rb (some ⟨g,0,none⟩) c is gs):rb≠g:=by
 have:=h.own_lo_ (b:=g) rfl
 have:=h.lo
 omega
theorem fC.set_go (h:fC w base rb (some ⟨g,0,none⟩) c is gs) (hx:is[n]?=some x) {y:av} (hr:y.rs=x.rs) {j:Nat} {v:Value} (hj:j < 4) (he:∀B cc,(dx y B y.rs.length cc).toList=(dx x B x.rs.length cc).toList.set j v) :
  fC (w.setCell ⟨g,n*5+j,none⟩ v) base rb (some ⟨g,0,none⟩) c (is.set n y) gs:=by
 obtain⟨B,cc,hg⟩:=h.gs_at hx
 have hn:=(List.getElem?_eq_some_iff.1 hx).1
 have hU:=(Upd.refl (fun b=>b=g) w).setCell ⟨g,n*5+j,none⟩ v (fun _=>rfl)
 have hfl:=flatI_set is gs n x y B B cc cc j v hx hg (by omega) (he B cc)
 rw[set_same gs n _ hg] at hfl
 refine⟨?_,⟨by rw[List.length_set];exact h.prog.len,?_,fun i z C d hz hd=>?_,h.prog.apart⟩,h.lo,Nat.le_trans h.hi hU.size,by rw[List.length_set];exact h.few⟩
 ·rw[List.length_set]
  exact h.box.upd hU h.ne_box
 ·rw[List.length_set,hfl]
  exact own_set h.prog.row (n*5+j) v (by omega)
 ·have hgne:∀b,(Value.slice C z.rs.length d).ownBlock=some b→¬b=g:=fun b hb e=>by
   subst e
   obtain⟨cur,hc,-⟩:=aK h.prog.row (g:=b) rfl
   rw[List.getElem?_set] at hz
   by_cases hi:n=i
   ·subst hi
    rw[if_pos rfl,if_pos hn] at hz
    injection hz with hz
    subst hz
    have ho:=h.prog.own n x C d hx hd
    rw[←hr] at ho
    exact own_ne ho hc (by decide) hb
   ·rw[if_neg hi] at hz
    exact own_ne (h.prog.own i z C d hz hd) hc (by decide) hb
  have ho:w.ownsRow base 66 2 (.slice C z.rs.length d) z.rs.length (iF z.rs):=by
   rw[List.getElem?_set] at hz
   by_cases hi:n=i
   ·subst hi
    rw[if_pos rfl,if_pos hn] at hz
    injection hz with hz
    subst hz
    have ho:=h.prog.own n x C d hx hd
    rw[←hr] at ho
    exact ho
   ·rw[if_neg hi] at hz
    exact h.prog.own i z C d hz hd
  exact aJ ho hU hgne
end
theorem eZ.setX {w w':World} {base rb c g n:Nat} {A:Option Addr} {is:List av} {gs:List (Option Addr × Nat)} {x:av} (h:eZ w base rb A w' (some ⟨g,0,none⟩) c is gs) (hx:is[n]?=some x) (v:Int):eZ w base rb A (w'.setCell ⟨g,n*5+1,none⟩ (.int .i64 v)) (some ⟨g,0,none⟩) c (is.set n { x with x:=v }) gs :=
 ⟨h.r.set_go (y:={ x with x:=v }) (j:=1) hx rfl (by omega) (fun _ _=>rfl),h.u.setCell _ _ (fun hb=>(h.n g rfl).elim .inr (fun e=>by have hb:g < w.heap.size:=hb;omega)),h.n⟩
theorem eZ.setY {w w':World} {base rb c g n:Nat} {A:Option Addr} {is:List av} {gs:List (Option Addr × Nat)} {x:av} (h:eZ w base rb A w' (some ⟨g,0,none⟩) c is gs) (hx:is[n]?=some x) (v:Int):eZ w base rb A (w'.setCell ⟨g,n*5+2,none⟩ (.int .i64 v)) (some ⟨g,0,none⟩) c (is.set n { x with y:=v }) gs :=
 ⟨h.r.set_go (y:={ x with y:=v }) (j:=2) hx rfl (by omega) (fun _ _=>rfl),h.u.setCell _ _ (fun hb=>(h.n g rfl).elim .inr (fun e=>by have hb:g < w.heap.size:=hb;omega)),h.n⟩
def LayC (t:Tree):Prop:=∀(w:World) (base rb c:Nat) (A:Option Addr) (is:List av) (gs:List (Option Addr × Nat)) (S:Nat→Prop) (cs:Array Value),fC w base rb A c is gs→aB w S cs t→(∀b,S b→b < base∧b≠rb)→is.length+aL t≤20000 →
 Calls Try.prog 41 #[.pointer (some ⟨rb,0,none⟩),.agg cs] w (LayAns w base rb A (is++bG t is.length))
end Go.Proofs.Ytnkefclbchpafaa

/-
  The walks of heronref07's empty and over: sums.
-/
namespace Go.Proofs.Ytnkefclbchpafaa
set_option maxHeartbeats 16000000
open Go.RowKit
set_option linter.unusedVariables false
def gX (k n s d:Int):Value:=.agg #[.int .i64 k,.int .i64 n,.int .i64 s,.int .i64 d]
theorem aA {w:World} {g:Nat} {t:TypeId} {v0 v1 v2 v3:Value} (h:Cells w g t #[v0,v1,v2,v3]) :
  w.cell? ⟨g,0,none⟩=some v0∧w.cell? ⟨g,1,none⟩=some v1∧w.cell? ⟨g,2,none⟩=some v2∧w.cell? ⟨g,3,none⟩=some v3:=⟨h.ak rfl,h.ak rfl,h.ak rfl,h.ak rfl⟩
def SumAns (k n s d:Int) (w:World) (e:Ending) (w':World):Prop:=e=.returned (gX k n s d)∧Upd Nob w w'
theorem empty7_any (w:World):Calls Try.prog 96 #[] w (SumAns 1 1 0 1 w):=by
 have C0:=Cells.new w 115 #[.int .i64 0,.int .i64 0,.int .i64 0,.int .i64 0]
 have hU:=(Upd.refl Nob w).alloc (.cells #[.int .i64 0,.int .i64 0,.int .i64 0,.int .i64 0] 115)
 generalize hP:SumAns 1 1 0 1 w=P
 have HP:=ah hP
 clear hP
 go_enter Try.func96,Try.ntmps96
 go_upto_region 1 with fail
 generalize w.alloc (.cells #[.int .i64 0,.int .i64 0,.int .i64 0,.int .i64 0] 115)=w1 at *
 obtain⟨d0,d1,d2,d3⟩:=aA C0
 have z0:=C0.frozen 0
 have z1:=C0.frozen 1
 have z2:=C0.frozen 2
 have z3:=C0.frozen 3
 have HC:=ah C0
 have HU:=ah hU
 clear C0 hU
 go_wp2_with fail
 have C9:Cells ((((w1.setCell ⟨w.heap.size,0,none⟩ (.int .i64 1)).setCell ⟨w.heap.size,1,none⟩ (.int .i64 1)).setCell ⟨w.heap.size,2,none⟩ (.int .i64 0)).setCell ⟨w.heap.size,3,none⟩ (.int .i64 1)) w.heap.size 115 #[.int .i64 1,.int .i64 1,.int .i64 0,.int .i64 1]:=(((HC.out.aW 0 _).aW 1 _).aW 2 _).aW 3 _
 have no:∀i,(⟨w.heap.size,i,none⟩:Addr).block < w.heap.size→Nob (⟨w.heap.size,i,none⟩:Addr).block:=fun i h=>absurd h (by show ¬w.heap.size < w.heap.size;omega)
 have U9:Upd Nob w ((((w1.setCell ⟨w.heap.size,0,none⟩ (.int .i64 1)).setCell ⟨w.heap.size,1,none⟩ (.int .i64 1)).setCell ⟨w.heap.size,2,none⟩ (.int .i64 0)).setCell ⟨w.heap.size,3,none⟩ (.int .i64 1)):=(((HU.out.setCell _ _ (no 0)).setCell _ _ (no 1)).setCell _ _ (no 2)).setCell _ _ (no 3)
 clear d0 d1 d2 d3 z0 z1 z2 z3 HC HU no
 generalize ((((w1.setCell ⟨w.heap.size,0,none⟩ (.int .i64 1)).setCell ⟨w.heap.size,1,none⟩ (.int .i64 1)).setCell ⟨w.heap.size,2,none⟩ (.int .i64 0)).setCell ⟨w.heap.size,3,none⟩ (.int .i64 1))=w3 at *
 obtain⟨d0,d1,d2,d3⟩:=aA C9
 refine bodyPost_ret (by simp[results,Try.results96,go_sem,d0,d1,d2,d3];try rfl) rfl ?_
 rw[←HP.out]
 exact⟨rfl,U9⟩
theorem dN {w w1:World} {g:Nat} {a0 a1 a2 a3:Value} (HC:Cells w1 g 115 #[a0,a1,a2,a3]) (HU:Upd Nob w w1) (hg:w.heap.size≤g) (v0 v1 v2 v3:Value) :
  Cells ((((w1.setCell ⟨g,0,none⟩ v0).setCell ⟨g,1,none⟩ v1).setCell ⟨g,2,none⟩ v2).setCell ⟨g,3,none⟩ v3) g 115 #[v0,v1,v2,v3]∧Upd Nob w ((((w1.setCell ⟨g,0,none⟩ v0).setCell ⟨g,1,none⟩ v1).setCell ⟨g,2,none⟩ v2).setCell ⟨g,3,none⟩ v3):=by
 have no:∀i,(⟨g,i,none⟩:Addr).block < w.heap.size→Nob (⟨g,i,none⟩:Addr).block:=fun i h=>absurd h (by show ¬g < w.heap.size;omega)
 exact⟨(((HC.aW 0 _).aW 1 _).aW 2 _).aW 3 _,(((HU.setCell _ _ (no 0)).setCell _ _ (no 1)).setCell _ _ (no 2)).setCell _ _ (no 3)⟩
end Go.Proofs.Ytnkefclbchpafaa
