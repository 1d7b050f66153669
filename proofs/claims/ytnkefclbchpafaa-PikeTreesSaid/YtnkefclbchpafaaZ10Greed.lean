/-
  Hits, Least, Greed, put together.
-/
import Derived.Test.YtnkefclbchpafaaZ09VisR
import Derived.Test.YtnkefclbchpafaaZ08Graph

/-
  Can a Match be come to from an instruction at a place? What the document's search finds, said by that. Plain lists, no memory.
-/
namespace Go.Proofs.Ytnkefclbchpafaa
set_option linter.unusedVariables false
inductive dR (is:List av) (text:List Int):Nat→Nat→Prop
 | match_ {j pc:Nat} {x:av}:is[pc]?=some x→x.op=5→dR is text j pc
 | altX {j pc:Nat} {x:av}:is[pc]?=some x→x.op=2→dR is text j x.x.toNat→dR is text j pc
 | altY {j pc:Nat} {x:av}:is[pc]?=some x→x.op=2→dR is text j x.y.toNat→dR is text j pc
 | goes {j pc:Nat} {x:av}:is[pc]?=some x→(x.op=7∨x.op=3)→dR is text j x.x.toNat→dR is text j pc
 | holds {j pc:Nat} {x:av}:is[pc]?=some x→x.op=4→cZ x.arg (part text j 6)=true→dR is text j x.x.toNat→dR is text j pc
 | rune {j pc:Nat} {x:av}:is[pc]?=some x→x.op=1→dI x.rs text j=true→dR is text (j+1) x.x.toNat→dR is text j pc
theorem fitsB_lt {rs:List (Int × Int)} {text:List Int} {j:Nat} (h:dI rs text j=true):j < text.length:=by
 refine Classical.byContradiction fun hn=>?_
 unfold dI at h
 rw[List.getElem?_eq_none (by omega)] at h
 cases h
def FEq (is:List av) (text:List Int) (j:Nat) (l m:List (Nat × List Int)):Prop :=
 l.filter (fun p=>@decide (dR is text j p.1) (Classical.propDecidable _))=m.filter (fun p=>@decide (dR is text j p.1) (Classical.propDecidable _))
section
variable {is : List av} {text : List Int} {j : Nat}
theorem FEq.append {l m l2 m2:List (Nat × List Int)} (h:FEq is text j l m) (g:FEq is text j l2 m2):FEq is text j (l++l2) (m++m2):=by
 unfold FEq at *
 rw[List.filter_append,List.filter_append,h,g]
theorem FEq.dead {l:List (Nat × List Int)} (h:∀p∈l,¬dR is text j p.1):FEq is text j l []:=by
 unfold FEq
 rw[List.filter_nil,List.filter_eq_nil_iff]
 intro p hp
 simpa using h p hp
theorem FEq.gW {l:List (Nat × List Int)} (h:FEq is text j l []):∀p∈l,¬dR is text j p.1:=by
 unfold FEq at h
 rw[List.filter_nil,List.filter_eq_nil_iff] at h
 intro p hp
 simpa using h p hp
theorem FEq.self (l:List (Nat × List Int)):FEq is text j l l:=Eq.refl _
structure Same (is:List av) (text:List Int) (j:Nat) (s t:VSt):Prop where
 met:∀pc,dR is text j pc→t.met[pc]?=s.met[pc]?
 over:t.over=s.over
 next:FEq is text (j+1) t.next s.next
 found:s.over=true→t.found=s.found
theorem Same.refl (s:VSt):Same is text j s s:=⟨fun _ _=>rfl,rfl,FEq.self _,fun _=>rfl⟩
theorem Same.symm {s t:VSt} (h:Same is text j s t):Same is text j t s:=⟨fun pc hp=>(h.met pc hp).symm,h.over.symm,h.next.symm,fun ho=>(h.found (h.over ▸ ho)).symm⟩
theorem Same.trans {s t u:VSt} (h:Same is text j s t) (g:Same is text j t u):Same is text j s u :=
 ⟨fun pc hp=>(g.met pc hp).trans (h.met pc hp),g.over.trans h.over,g.next.trans h.next,fun ho=>(g.found (h.over.trans ho)).trans (h.found ho)⟩
theorem mark_same (s:VSt) {pc:Nat} (h:¬dR is text j pc):Same is text j s (aG s pc):=by
 refine⟨fun q hq=>?_,rfl,FEq.self _,fun _=>rfl⟩
 show(s.met.set pc true)[q]?=_
 rw[List.getElem?_set_ne (fun e=>by subst e;exact h hq)]
theorem gZ {f pc:Nat} {caps:List Int} {s:VSt} (h:is[pc]?=none):aO is text j (f+1) pc caps s=s:=by
 rw[aO,h]
 split <;> rfl
theorem iX {f pc:Nat} {caps:List Int} {s:VSt} (h:s.met[pc]?=none):aO is text j (f+1) pc caps s=s:=by
 rw[aO,List.getD_eq_getElem?_getD,h]
 simp
theorem fT:∀(f pc:Nat) (caps:List Int) (s:VSt),¬dR is text j pc→Same is text j s (aO is text j f pc caps s)
 | 0,pc,caps,s,_=>Same.refl s
 | f+1,pc,caps,s,hd=>by
  rcases ho:s.over with _ | _
  rotate_left
  ·rw[fO ho];exact Same.refl s
  rcases hm:s.met[pc]? with _ | m
  ·rw[iX hm];exact Same.refl s
  rcases m with _ | _
  rotate_left
  ·rw[fB hm];exact Same.refl s
  rcases hx:is[pc]? with _ | x
  ·rw[gZ hx];exact Same.refl s
  have hk:=mark_same s hd
  rw[gG ho hm hx]
  by_cases o2:x.op=2
  ·rw[if_pos o2]
   exact(hk.trans (fT f _ _ _ (fun h=>hd (.altX hx o2 h)))).trans (fT f _ _ _ (fun h=>hd (.altY hx o2 h)))
  rw[if_neg o2]
  by_cases o7:x.op=7
  ·rw[if_pos o7]
   exact hk.trans (fT f _ _ _ (fun h=>hd (.goes hx (.inl o7) h)))
  rw[if_neg o7]
  by_cases o3:x.op=3
  ·rw[if_pos o3]
   exact hk.trans (fT f _ _ _ (fun h=>hd (.goes hx (.inr o3) h)))
  rw[if_neg o3]
  by_cases o4:x.op=4
  ·rw[if_pos o4]
   by_cases hh:cZ x.arg (part text j 6)=true
   ·rw[if_pos hh]
    exact hk.trans (fT f _ _ _ (fun h=>hd (.holds hx o4 hh h)))
   ·rw[if_neg hh];exact hk
  rw[if_neg o4]
  by_cases o1:x.op=1
  ·rw[if_pos o1]
   by_cases hf:dI x.rs text j=true
   ·rw[if_pos hf]
    have hn:¬dR is text (j+1) x.x.toNat:=fun h=>hd (.rune hx o1 hf h)
    refine⟨hk.met,hk.over,?_,hk.found⟩
    show FEq is text (j+1) (s.next++[(x.x.toNat,caps)]) s.next
    have h2:=(FEq.self (is:=is) (text:=text) (j:=j+1) s.next).append (FEq.dead (l:=[(x.x.toNat,caps)]) (by intro p hp;simp at hp;rw[hp];exact hn))
    rwa [List.append_nil] at h2
   ·rw[if_neg hf];exact hk
  rw[if_neg o1]
  by_cases o5:x.op=5
  ·exact absurd (.match_ hx o5) hd
  rw[if_neg o5]
  exact hk
theorem iY:∀(f pc:Nat) (caps:List Int) (s t:VSt),s.met.length=is.length→t.met.length=is.length→Same is text j s t→Same is text j (aO is text j f pc caps s) (aO is text j f pc caps t)
 | 0,pc,caps,s,t,_,_,h=>h
 | f+1,pc,caps,s,t,ls,lt,h=>by
  by_cases hl:dR is text j pc
  rotate_left
  ·exact((fT (f+1) pc caps s hl).symm.trans h).trans (fT (f+1) pc caps t hl)
  rcases ho:s.over with _ | _
  rotate_left
  ·rw[fO ho,fO (h.over.trans ho)];exact h
  have ho':=h.over.trans ho
  rcases hm:s.met[pc]? with _ | m
  ·rw[iX hm,iX ((h.met pc hl).trans hm)];exact h
  have hm':=(h.met pc hl).trans hm
  rcases m with _ | _
  rotate_left
  ·rw[fB hm,fB hm'];exact h
  rcases hx:is[pc]? with _ | x
  ·rw[gZ hx,gZ hx];exact h
  have hk:Same is text j (aG s pc) (aG t pc):=by
   refine⟨fun q hq=>?_,h.over,h.next,h.found⟩
   show(t.met.set pc true)[q]?=(s.met.set pc true)[q]?
   by_cases e:pc=q
   ·subst e
    rw[List.getElem?_set_self (List.getElem?_eq_some_iff.1 hm').1,List.getElem?_set_self (List.getElem?_eq_some_iff.1 hm).1]
   ·rw[List.getElem?_set_ne e,List.getElem?_set_ne e]
    exact h.met q hq
  have ls':(aG s pc).met.length=is.length:=by show(s.met.set pc true).length=_;rw[List.length_set,ls]
  have lt':(aG t pc).met.length=is.length:=by show(t.met.set pc true).length=_;rw[List.length_set,lt]
  rw[gG ho hm hx,gG ho' hm' hx]
  by_cases o2:x.op=2
  ·rw[if_pos o2,if_pos o2]
   exact iY f _ _ _ _ (by rw[bF];exact ls') (by rw[bF];exact lt') (iY f _ _ _ _ ls' lt' hk)
  rw[if_neg o2,if_neg o2]
  by_cases o7:x.op=7
  ·rw[if_pos o7,if_pos o7]
   exact iY f _ _ _ _ ls' lt' hk
  rw[if_neg o7,if_neg o7]
  by_cases o3:x.op=3
  ·rw[if_pos o3,if_pos o3]
   exact iY f _ _ _ _ ls' lt' hk
  rw[if_neg o3,if_neg o3]
  by_cases o4:x.op=4
  ·rw[if_pos o4,if_pos o4]
   split
   ·exact iY f _ _ _ _ ls' lt' hk
   ·exact hk
  rw[if_neg o4,if_neg o4]
  by_cases o1:x.op=1
  ·rw[if_pos o1,if_pos o1]
   split
   ·refine⟨hk.met,hk.over,?_,hk.found⟩
    exact FEq.append h.next (FEq.self _)
   ·exact hk
  rw[if_neg o1,if_neg o1]
  by_cases o5:x.op=5
  ·rw[if_pos o5,if_pos o5]
   exact⟨hk.met,rfl,hk.next,fun _=>rfl⟩
  rw[if_neg o5,if_neg o5]
  exact hk
structure Fnd (s t:VSt):Prop where
 hit:t.over=true→s.over=true∨t.found.isSome=true
 no:t.over=false→s.over=false∧t.found=s.found
 next:∃e,t.next=s.next++e
 end_:s.over=true→t=s
theorem Fnd.refl (s:VSt):Fnd s s:=⟨.inl,fun h=>⟨h,rfl⟩,⟨[],(List.append_nil _).symm⟩,fun _=>rfl⟩
theorem Fnd.trans {s t u:VSt} (h:Fnd s t) (g:Fnd t u):Fnd s u:=by
 refine⟨fun ho=>?_,fun ho=>⟨(h.no (g.no ho).1).1,(g.no ho).2.trans (h.no (g.no ho).1).2⟩,?_,fun ho=>?_⟩
 ·rcases g.hit ho with h3 | h3
  ·rw[g.end_ h3];exact h.hit h3
  ·exact .inr h3
 ·obtain⟨e1,he1⟩:=h.next
  obtain⟨e2,he2⟩:=g.next
  exact⟨e1++e2,by rw[he2,he1,List.append_assoc]⟩
 ·have h1:=h.end_ ho
  rw[g.end_ (by rw[h1];exact ho),h1]
theorem Fnd.mark {s:VSt} (ho:s.over=false) (pc:Nat):Fnd s (aG s pc) :=
 ⟨.inl,fun h=>⟨h,rfl⟩,⟨[],(List.append_nil _).symm⟩,fun h=>by rw[ho] at h;cases h⟩
theorem fM:∀(f pc:Nat) (caps:List Int) (s:VSt),Fnd s (aO is text j f pc caps s)
 | 0,pc,caps,s=>Fnd.refl s
 | f+1,pc,caps,s=>by
  rcases ho:s.over with _ | _
  rotate_left
  ·rw[fO ho];exact Fnd.refl s
  rcases hm:s.met[pc]? with _ | m
  ·rw[iX hm];exact Fnd.refl s
  rcases m with _ | _
  rotate_left
  ·rw[fB hm];exact Fnd.refl s
  rcases hx:is[pc]? with _ | x
  ·rw[gZ hx];exact Fnd.refl s
  have mk:=Fnd.mark ho pc
  rw[gG ho hm hx]
  by_cases o2:x.op=2
  ·rw[if_pos o2];exact(mk.trans (fM f _ _ _)).trans (fM f _ _ _)
  rw[if_neg o2]
  by_cases o7:x.op=7
  ·rw[if_pos o7];exact mk.trans (fM f _ _ _)
  rw[if_neg o7]
  by_cases o3:x.op=3
  ·rw[if_pos o3];exact mk.trans (fM f _ _ _)
  rw[if_neg o3]
  by_cases o4:x.op=4
  ·rw[if_pos o4]
   split
   ·exact mk.trans (fM f _ _ _)
   ·exact mk
  rw[if_neg o4]
  by_cases o1:x.op=1
  ·rw[if_pos o1]
   split
   ·exact⟨.inl,fun h=>⟨h,rfl⟩,⟨_,rfl⟩,fun h=>by rw[ho] at h;cases h⟩
   ·exact mk
  rw[if_neg o1]
  by_cases o5:x.op=5
  ·rw[if_pos o5]
   exact⟨fun _=>.inr rfl,fun h=>(by cases h),⟨[],(List.append_nil _).symm⟩,fun h=>by rw[ho] at h;cases h⟩
  rw[if_neg o5]
  exact mk
theorem all_append:∀(l m:List (Nat × List Int)) (s:VSt),ay is text j (l++m) s=ay is text j m (ay is text j l s)
 | [],m,s=>rfl
 | x::r,m,s=>all_append r m _
theorem eG:∀(l:List (Nat × List Int)) (s:VSt),Fnd s (ay is text j l s)
 | [],s=>Fnd.refl s
 | x::r,s=>(fM (is.length+1) x.1 x.2 s).trans (eG r _)
theorem gW:∀(l:List (Nat × List Int)) (s:VSt),(∀p∈l,¬dR is text j p.1)→Same is text j s (ay is text j l s)
 | [],s,_=>Same.refl s
 | x::r,s,h=>(fT (is.length+1) x.1 x.2 s (h x (by simp))).trans (gW r _ (fun p hp=>h p (by simp[hp])))
theorem all_both:∀(l:List (Nat × List Int)) (s t:VSt),s.met.length=is.length→t.met.length=is.length→Same is text j s t→Same is text j (ay is text j l s) (ay is text j l t)
 | [],s,t,_,_,h=>h
 | x::r,s,t,ls,lt,h=>all_both r _ _ (by rw[bF];exact ls) (by rw[bF];exact lt) (iY (is.length+1) x.1 x.2 s t ls lt h)
theorem all_filter:∀(l:List (Nat × List Int)) (s:VSt),s.met.length=is.length→Same is text j (ay is text j l s) (ay is text j (l.filter (fun p=>@decide (dR is text j p.1) (Classical.propDecidable _))) s)
 | [],s,_=>Same.refl _
 | x::r,s,ls=>by
  by_cases hx:dR is text j x.1
  ·rw[List.filter_cons_of_pos (by simpa using hx)]
   exact all_filter r _ (by rw[bF];exact ls)
  ·rw[List.filter_cons_of_neg (by simpa using hx)]
   refine(all_filter r _ (by rw[bF];exact ls)).trans ?_
   exact(all_both _ _ _ ls (by rw[bF];exact ls) (fT (is.length+1) x.1 x.2 s hx)).symm
theorem all_same {l m:List (Nat × List Int)} {s t:VSt} (h:FEq is text j l m) (ls:s.met.length=is.length) (lt:t.met.length=is.length) (hs:Same is text j s t) :
  Same is text j (ay is text j l s) (ay is text j m t):=by
 have h1:=all_filter (is:=is) (text:=text) (j:=j) l s ls
 have h2:=all_filter (is:=is) (text:=text) (j:=j) m t lt
 unfold FEq at h
 rw[h] at h1
 exact(h1.trans (all_both _ _ _ ls lt hs)).trans h2.symm
end
end Go.Proofs.Ytnkefclbchpafaa

/-
  What the document's search finds: an anchored one finds something just where a Match can be come to; one that is not anchored finds what the least anchored one finds. Plain lists, no memory.
-/
namespace Go.Proofs.Ytnkefclbchpafaa
set_option linter.unusedVariables false
def Inside (is:List av):Prop:=∀(i:Nat) (x:av),is[i]?=some x→((x.op=1∨x.op=2∨x.op=3∨x.op=4∨x.op=7)→x.x.toNat < is.length)∧(x.op=2→x.y.toNat < is.length)
theorem inside_of {is:List av} {caps:Int} (h:∀(i:Nat) (x:av),is[i]?=some x→bC x is.length caps=true):Inside is:=fun i x hx =>
 ⟨fun ho=>by have:=vmay_x (h i x hx) ho;omega,fun ho=>by have:=vmay_y (h i x hx) ho;omega⟩
section
variable {is : List av} {text : List Int} {j : Nat}
def Good (is:List av) (text:List Int) (j:Nat) (t:VSt) (q:Nat):Prop:=∀x,is[q]?=some x →
 x.op≠5∧(x.op=2→t.met[x.x.toNat]?=some true∧t.met[x.y.toNat]?=some true)∧((x.op=7∨x.op=3)→t.met[x.x.toNat]?=some true) ∧
 (x.op=4→cZ x.arg (part text j 6)=true→t.met[x.x.toNat]?=some true)∧(x.op=1→dI x.rs text j=true→∃c,(x.x.toNat,c)∈t.next)
structure Clo (is:List av) (text:List Int) (j:Nat) (s t:VSt):Prop where
 met:∀q:Nat,s.met[q]?=some true→t.met[q]?=some true
 next:∀p∈s.next,p∈t.next
 inside:∀p∈t.next,p∈s.next∨p.1 < is.length
 new:∀q:Nat,t.met[q]?=some true→s.met[q]?=some true∨Good is text j t q
theorem Clo.refl (s:VSt):Clo is text j s s:=⟨fun _ h=>h,fun _ h=>h,fun _ h=>.inl h,fun _ h=>.inl h⟩
theorem Good.mono {s t:VSt} {q:Nat} (h:Good is text j s q) (hm:∀q:Nat,s.met[q]?=some true→t.met[q]?=some true) (hn:∀p∈s.next,p∈t.next):Good is text j t q:=fun x hx=>by
 obtain⟨h1,h2,h3,h4,h5⟩:=h x hx
 refine⟨h1,fun ho=>⟨hm _ (h2 ho).1,hm _ (h2 ho).2⟩,fun ho=>hm _ (h3 ho),fun ho hh=>hm _ (h4 ho hh),fun ho hf=>?_⟩
 obtain⟨c,hc⟩:=h5 ho hf
 exact⟨c,hn _ hc⟩
theorem Clo.trans {s t u:VSt} (h:Clo is text j s t) (g:Clo is text j t u):Clo is text j s u :=
 ⟨fun q hq=>g.met q (h.met q hq),fun p hp=>g.next p (h.next p hp),fun p hp=>(g.inside p hp).elim (h.inside p) .inr,fun q hq=>(g.new q hq).elim (fun hq=>(h.new q hq).elim .inl (fun hg=>.inr (hg.mono g.met g.next))) .inr⟩
theorem Clo.kM {s t:VSt} {pc:Nat} (hm:s.met[pc]?=some false) (h:Clo is text j (aG s pc) t) (hg:Good is text j t pc):Clo is text j s t∧t.met[pc]?=some true:=by
 have hl:=(List.getElem?_eq_some_iff.1 hm).1
 have hpc:(aG s pc).met[pc]?=some true:=by
  show(s.met.set pc true)[pc]?=_
  rw[List.getElem?_set_self hl]
 refine⟨⟨fun q hq=>h.met q ?_,h.next,h.inside,fun q hq=>?_⟩,h.met pc hpc⟩
 ·show(s.met.set pc true)[q]?=_
  rw[List.getElem?_set_ne (fun e=>by subst e;rw[hm] at hq;cases hq)]
  exact hq
 ·rcases h.new q hq with h1 | h1
  ·by_cases e:pc=q
   ·subst e;exact .inr hg
   ·change (s.met.set pc true)[q]?=_ at h1
    rw[List.getElem?_set_ne e] at h1
    exact .inl h1
  ·exact .inr h1
theorem jM (hR:Inside is):∀(f pc:Nat) (caps:List Int) (s:VSt),s.met.length=is.length→pc < is.length→s.met.count false < f→(aO is text j f pc caps s).over=false →
  Clo is text j s (aO is text j f pc caps s)∧(aO is text j f pc caps s).met[pc]?=some true
 | 0,pc,caps,s,_,_,h,_=>absurd h (by omega)
 | f+1,pc,caps,s,hl,hpc,hc,hov=>by
  rcases ho:s.over with _ | _
  rotate_left
  ·rw[fO ho,ho] at hov;cases hov
  obtain⟨m,hm⟩:∃m,s.met[pc]?=some m:=⟨_,List.getElem?_eq_getElem (by omega)⟩
  rcases m with _ | _
  rotate_left
  ·rw[fB hm];exact⟨Clo.refl s,hm⟩
  obtain⟨x,hx⟩:∃x,is[pc]?=some x:=⟨_,List.getElem?_eq_getElem hpc⟩
  obtain⟨rx,ry⟩:=hR pc x hx
  have hcm:=gK hm
  have hl':(aG s pc).met.length=is.length:=by show(s.met.set pc true).length=_;rw[List.length_set,hl]
  have hc':(aG s pc).met.count false < f:=by show(s.met.set pc true).count false < f;omega
  have goodof:∀t:VSt,x.op≠5→(x.op=2→t.met[x.x.toNat]?=some true∧t.met[x.y.toNat]?=some true)→((x.op=7∨x.op=3)→t.met[x.x.toNat]?=some true) →
    (x.op=4→cZ x.arg (part text j 6)=true→t.met[x.x.toNat]?=some true)→(x.op=1→dI x.rs text j=true→∃c,(x.x.toNat,c)∈t.next)→Good is text j t pc:=fun t h1 h2 h3 h4 h5 y hy=>by
   rw[hx] at hy
   injection hy with hy
   subst hy
   exact⟨h1,h2,h3,h4,h5⟩
  rw[gG ho hm hx] at hov ⊢
  by_cases o2:x.op=2
  ·rw[if_pos o2] at hov ⊢
   have hov1:=((fM (is:=is) (text:=text) (j:=j) f x.y.toNat caps (aO is text j f x.x.toNat caps (aG s pc))).no hov).1
   obtain⟨c1,m1⟩:=jM hR f x.x.toNat caps (aG s pc) hl' (rx (.inr (.inl o2))) hc' hov1
   obtain⟨c2,m2⟩:=jM hR f x.y.toNat caps _ (by rw[bF];exact hl') (ry o2) (Nat.lt_of_le_of_lt (dV _ _ _ _ _ _ _) hc') hov
   exact Clo.kM hm (c1.trans c2) (goodof _ (by omega) (fun _=>⟨c2.met _ m1,m2⟩) (fun h=>by omega) (fun h=>by omega) (fun h=>by omega))
  rw[if_neg o2] at hov ⊢
  by_cases o7:x.op=7
  ·rw[if_pos o7] at hov ⊢
   obtain⟨c1,m1⟩:=jM hR f x.x.toNat caps (aG s pc) hl' (rx (by omega)) hc' hov
   exact Clo.kM hm c1 (goodof _ (by omega) (fun h=>by omega) (fun h=>m1) (fun h=>by omega) (fun h=>by omega))
  rw[if_neg o7] at hov ⊢
  by_cases o3:x.op=3
  ·rw[if_pos o3] at hov ⊢
   obtain⟨c1,m1⟩:=jM hR f x.x.toNat _ (aG s pc) hl' (rx (by omega)) hc' hov
   exact Clo.kM hm c1 (goodof _ (by omega) (fun h=>by omega) (fun h=>m1) (fun h=>by omega) (fun h=>by omega))
  rw[if_neg o3] at hov ⊢
  by_cases o4:x.op=4
  ·rw[if_pos o4] at hov ⊢
   by_cases hh:cZ x.arg (part text j 6)=true
   ·rw[if_pos hh] at hov ⊢
    obtain⟨c1,m1⟩:=jM hR f x.x.toNat _ (aG s pc) hl' (rx (by omega)) hc' hov
    exact Clo.kM hm c1 (goodof _ (by omega) (fun h=>by omega) (fun h=>by omega) (fun _ _=>m1) (fun h=>by omega))
   ·rw[if_neg hh] at hov ⊢
    exact Clo.kM hm (Clo.refl _) (goodof _ (by omega) (fun h=>by omega) (fun h=>by omega) (fun _ h=>absurd h hh) (fun h=>by omega))
  rw[if_neg o4] at hov ⊢
  by_cases o1:x.op=1
  ·rw[if_pos o1] at hov ⊢
   by_cases hf:dI x.rs text j=true
   ·rw[if_pos hf] at hov ⊢
    refine Clo.kM hm ⟨fun q hq=>hq,fun p hp=>List.mem_append.2 (.inl hp),fun p hp=>?_,fun q hq=>.inl hq⟩ (goodof _ (by omega) (fun h=>by omega) (fun h=>by omega) (fun h=>by omega) (fun _ _=>⟨caps,List.mem_append.2 (.inr (by simp))⟩))
    rcases List.mem_append.1 hp with h1 | h1
    ·exact .inl h1
    ·simp at h1
     rw[h1]
     exact .inr (rx (.inl o1))
   ·rw[if_neg hf] at hov ⊢
    exact Clo.kM hm (Clo.refl _) (goodof _ (by omega) (fun h=>by omega) (fun h=>by omega) (fun h=>by omega) (fun _ h=>absurd h hf))
  rw[if_neg o1] at hov ⊢
  by_cases o5:x.op=5
  ·rw[if_pos o5] at hov;cases hov
  rw[if_neg o5] at hov ⊢
  exact Clo.kM hm (Clo.refl _) (goodof _ o5 (fun h=>by omega) (fun h=>by omega) (fun h=>by omega) (fun h=>by omega))
theorem all_clo (hR:Inside is):∀(l:List (Nat × List Int)) (s:VSt),s.met.length=is.length→(∀p∈l,p.1 < is.length)→(ay is text j l s).over=false →
  Clo is text j s (ay is text j l s)∧∀p∈l,(ay is text j l s).met[p.1]?=some true
 | [],s,_,_,_=>⟨Clo.refl s,fun p hp=>by simp at hp⟩
 | x::r,s,hl,hp,ho=>by
  have hl1:(aO is text j (is.length+1) x.1 x.2 s).met.length=is.length:=by rw[bF];exact hl
  have ho1:=((eG (is:=is) (text:=text) (j:=j) r (aO is text j (is.length+1) x.1 x.2 s)).no ho).1
  have hcl:s.met.count false < is.length+1:=by have:=List.count_le_length (a:=false) (l:=s.met);omega
  obtain⟨c1,m1⟩:=jM hR (is.length+1) x.1 x.2 s hl (hp x (by simp)) hcl ho1
  obtain⟨c2,m2⟩:=all_clo hR r _ hl1 (fun p h=>hp p (by simp[h])) ho
  refine⟨c1.trans c2,fun p h=>?_⟩
  rcases List.mem_cons.1 h with rfl | h
  ·exact c2.met _ m1
  ·exact m2 p h
theorem no_hits {t:VSt} (hg:∀q:Nat,t.met[q]?=some true→Good is text j t q) (hn:j < text.length→∀p∈t.next,¬dR is text (j+1) p.1) {k pc:Nat} (h:dR is text k pc):k=j→t.met[pc]?=some true→False:=by
 induction h with
 | match_ hx h5=>rintro rfl hq;exact(hg _ hq _ hx).1 h5
 | altX hx h2 _ ih=>rintro rfl hq;exact ih rfl ((hg _ hq _ hx).2.1 h2).1
 | altY hx h2 _ ih=>rintro rfl hq;exact ih rfl ((hg _ hq _ hx).2.1 h2).2
 | goes hx ho _ ih=>rintro rfl hq;exact ih rfl ((hg _ hq _ hx).2.2.1 ho)
 | holds hx ho hh _ ih=>rintro rfl hq;exact ih rfl ((hg _ hq _ hx).2.2.2.1 ho hh)
 | rune hx ho hf h _ =>
  rintro rfl hq
  obtain⟨c,hc⟩:=(hg _ hq _ hx).2.2.2.2 ho hf
  exact hn (fitsB_lt hf) _ hc h
def fresh (n:Nat) (fo:Option (List Int × Int)) (steps:Nat):VSt:={ met:=List.replicate n false,next:=[],found:=fo,steps:=steps,over:=false }
theorem fresh_len (n:Nat) (fo:Option (List Int × Int)) (steps:Nat):(fresh n fo steps).met.length=n:=by simp[fresh]
theorem fresh_same (fo fo':Option (List Int × Int)) (steps steps':Nat):Same is text j (fresh is.length fo steps) (fresh is.length fo' steps'):=⟨fun _ _=>rfl,rfl,FEq.self _,fun h=>by cases h⟩
theorem dX (st:Nat) (nn:List Int) (ours:Bool) (ths:List (Nat × List Int)) (fo:Option (List Int × Int)) (steps:Nat) :
  iP is st nn text j ours ths fo steps=ay is text j (ths++if ours then [(st,nn)] else []) (fresh is.length fo steps):=by
 rw[all_append]
 unfold iP fresh
 cases ours <;> rfl
section
variable {st : Nat} {nn : List Int} {a0 : Nat}
theorem dz {anchored:Bool} {f:Nat} {ths:List (Nat × List Int)} {fo:Option (List Int × Int)} {steps:Nat} {s9:VSt} (h:iP is st nn text j (decide (j=a0) || !anchored && fo.isNone) ths fo steps=s9) :
  bM is st nn text a0 anchored (f+1) j ths fo steps=if s9.next.isEmpty && (s9.found.isSome || anchored) then (s9.found,s9.steps) else bM is st nn text a0 anchored f (j+1) s9.next s9.found s9.steps:=by
 rw[bM]
 simp only[h]
theorem jo {anchored:Bool}:∀(f j:Nat) (ths:List (Nat × List Int)) (fo:Option (List Int × Int)) (steps:Nat),a0 < j→(fo.isSome || anchored)=true→(∀p∈ths,¬dR is text j p.1) →
  (bM is st nn text a0 anchored f j ths fo steps).1=fo
 | 0,j,ths,fo,steps,_,_,_=>rfl
 | f+1,j,ths,fo,steps,ha,hf,hd=>by
  have hours:(decide (j=a0) || !anchored && fo.isNone)=false:=by
   rw[decide_eq_false (by omega),Bool.false_or]
   revert hf
   cases anchored <;> cases fo <;> simp
  rw[dz rfl,hours,dX]
  simp only[Bool.false_eq_true,if_false,List.append_nil]
  have hs:=gW (is:=is) (text:=text) (j:=j) ths (fresh is.length fo steps) hd
  have hfo:=((eG (is:=is) (text:=text) (j:=j) ths (fresh is.length fo steps)).no hs.over).2
  have hfo':(ay is text j ths (fresh is.length fo steps)).found=fo:=hfo
  have hnx:=FEq.gW (show FEq is text (j+1) (ay is text j ths (fresh is.length fo steps)).next [] from hs.next)
  split
  ·exact hfo'
  ·rw[jo f (j+1) _ _ _ (by omega) (by rw[hfo'];exact hf) hnx,hfo']
theorem search_keeps {anchored:Bool}:∀(f j:Nat) (ths:List (Nat × List Int)) (fo:Option (List Int × Int)) (steps:Nat),fo.isSome=true→(bM is st nn text a0 anchored f j ths fo steps).1.isSome=true
 | 0,j,ths,fo,steps,h=>h
 | f+1,j,ths,fo,steps,h=>by
  rw[dz rfl,dX]
  generalize hL:(ths++if (decide (j=a0) || !anchored && fo.isNone)=true then [(st,nn)] else [])=L
  have hs:=eG (is:=is) (text:=text) (j:=j) L (fresh is.length fo steps)
  have hk:(ay is text j L (fresh is.length fo steps)).found.isSome=true:=by
   rcases ho:(ay is text j L (fresh is.length fo steps)).over with _ | _
   ·rw[(hs.no ho).2];exact h
   ·rcases hs.hit ho with h1 | h1
    ·cases h1
    ·exact h1
  split
  ·exact hk
  ·exact search_keeps f (j+1) _ _ _ hk
theorem search_full (hR:Inside is) (hst:st < is.length):∀(f j:Nat) (ths:List (Nat × List Int)) (steps:Nat),f+1+j=text.length+1→(∀p∈ths,p.1 < is.length) →
  (bM is st nn text a0 true (f+1) j ths none steps).1=none→(∀p∈ths,¬dR is text j p.1)∧(j=a0→¬dR is text j st)
 | f,j,ths,steps,hfj,hp,hn=>by
  rw[dz rfl,dX] at hn
  have hours:(decide (j=a0) || !true && (none:Option (List Int × Int)).isNone)=decide (j=a0):=by simp
  rw[hours] at hn
  generalize hL:(ths++if decide (j=a0)=true then [(st,nn)] else [])=L at hn
  have hLp:∀p∈L,p.1 < is.length:=by
   intro p h
   rw[←hL] at h
   rcases List.mem_append.1 h with h | h
   ·exact hp p h
   ·split at h
    ·simp at h;rw[h];exact hst
    ·simp at h
  have hs:=eG (is:=is) (text:=text) (j:=j) L (fresh is.length none steps)
  have hfn:(ay is text j L (fresh is.length none steps)).found=none:=by
   rcases hq:(ay is text j L (fresh is.length none steps)).found with _ | v
   ·rfl
   ·rw[hq] at hn
    split at hn
    ·cases hn
    ·have:=search_keeps (is:=is) (text:=text) (st:=st) (nn:=nn) (a0:=a0) (anchored:=true) f (j+1) (ay is text j L (fresh is.length none steps)).next (some v) (ay is text j L (fresh is.length none steps)).steps rfl
     rw[hn] at this
     cases this
  have hov:(ay is text j L (fresh is.length none steps)).over=false:=by
   rcases ho:(ay is text j L (fresh is.length none steps)).over with _ | _
   ·rfl
   ·rcases hs.hit ho with h1 | h1
    ·cases h1
    ·rw[hfn] at h1;cases h1
  obtain⟨hc,hm⟩:=all_clo hR L (fresh is.length none steps) (fresh_len _ _ _) hLp hov
  have hg:∀q:Nat,(ay is text j L (fresh is.length none steps)).met[q]?=some true→Good is text j (ay is text j L (fresh is.length none steps)) q:=fun q hq=>(hc.new q hq).elim (fun h=>by
   have h2:(List.replicate is.length false)[q]?=some true:=h
   rw[List.getElem?_replicate] at h2
   split at h2 <;> simp at h2) id
  have hnx:j < text.length→∀p∈(ay is text j L (fresh is.length none steps)).next,¬dR is text (j+1) p.1:=by
   intro hj
   rw[hfn] at hn
   split at hn
   ·rename_i he
    have he2:(ay is text j L (fresh is.length none steps)).next=[]:=by
     rw[Bool.and_eq_true] at he
     exact List.isEmpty_iff.1 he.1
    rw[he2]
    intro p h
    simp at h
   ·obtain⟨f',rfl⟩:∃f',f=f'+1:=⟨f - 1,by omega⟩
    exact(search_full hR hst f' (j+1) _ _ (by omega) (fun p h=>(hc.inside p h).elim (fun h=>by simp[fresh] at h) id) hn).1
  refine⟨fun p h hh=>no_hits hg hnx hh rfl (hm p (by rw[←hL];exact List.mem_append.2 (.inl h))),fun e hh=>no_hits hg hnx hh rfl (hm (st,nn) (by rw[←hL,if_pos (by simpa using e)];exact List.mem_append.2 (.inr (by simp))))⟩
theorem search_from_dead (f:Nat) (steps:Nat) (h:¬dR is text a0 st):(bM is st nn text a0 true f a0 [] none steps).1=none:=by
 rcases f with _ | f
 ·rfl
 have hours:(decide (a0=a0) || !true && (none:Option (List Int × Int)).isNone)=true:=by simp
 rw[dz rfl,dX,hours]
 simp only[if_true,List.nil_append]
 have hd:∀p∈[(st,nn)],¬dR is text a0 p.1:=by intro p hp;simp at hp;rw[hp];exact h
 have hs:=gW (is:=is) (text:=text) (j:=a0) [(st,nn)] (fresh is.length none steps) hd
 have hfo:(ay is text a0 [(st,nn)] (fresh is.length none steps)).found=none:=((eG (is:=is) (text:=text) (j:=a0) [(st,nn)] (fresh is.length none steps)).no hs.over).2
 have hnx:=FEq.gW (show FEq is text (a0+1) (ay is text a0 [(st,nn)] (fresh is.length none steps)).next [] from hs.next)
 split
 ·exact hfo
 ·rw[jo f (a0+1) _ _ _ (by omega) (by rw[hfo];rfl) hnx,hfo]
theorem search_iff (hR:Inside is) (hst:st < is.length) (ha:a0≤text.length) (steps:Nat):(bM is st nn text a0 true (text.length+1 - a0) a0 [] none steps).1.isSome=true↔dR is text a0 st:=by
 obtain⟨f,hf⟩:∃f,text.length+1 - a0=f+1:=⟨text.length - a0,by omega⟩
 constructor
 ·intro h
  refine Classical.byContradiction fun hn=>?_
  rw[search_from_dead _ _ hn] at h
  cases h
 ·intro h
  rcases hq:(bM is st nn text a0 true (text.length+1 - a0) a0 [] none steps).1 with _ | v
  ·rw[hf] at hq
   exact absurd h ((search_full hR hst f a0 [] steps (by omega) (by simp) hq).2 rfl)
  ·rfl
theorem step_sync (L R M:List (Nat × List Int)) (foU foA:Option (List Int × Int)) (su sa:Nat) (hF:FEq is text j L M) (hI:foA.isSome=true→foU=foA∧R=[]) :
  ∃L' e,(ay is text j (L++R) (fresh is.length foU su)).next=L'++e∧FEq is text (j+1) L' (ay is text j M (fresh is.length foA sa)).next ∧
   ((ay is text j M (fresh is.length foA sa)).found.isSome=true→(ay is text j (L++R) (fresh is.length foU su)).found=(ay is text j M (fresh is.length foA sa)).found∧e=[]):=by
 have hS:=all_same hF (fresh_len is.length foU su) (fresh_len is.length foA sa) (fresh_same (is:=is) (text:=text) (j:=j) foU foA su sa)
 have fA:=eG (is:=is) (text:=text) (j:=j) M (fresh is.length foA sa)
 have fL:=eG (is:=is) (text:=text) (j:=j) L (fresh is.length foU su)
 have fR:=eG (is:=is) (text:=text) (j:=j) R (ay is text j L (fresh is.length foU su))
 rw[all_append]
 generalize ay is text j L (fresh is.length foU su)=sL at *
 generalize ay is text j M (fresh is.length foA sa)=sA at *
 rcases ho:sL.over with _ | _
 ·have hoA:sA.over=false:=hS.over.trans ho
  have hfA:sA.found=foA:=(fA.no hoA).2
  have hfL:sL.found=foU:=(fL.no ho).2
  obtain⟨e,he⟩:=fR.next
  refine⟨sL.next,e,he,hS.next.symm,fun h=>?_⟩
  rw[hfA] at h
  obtain⟨h1,rfl⟩:=hI h
  have he2:sL.next=sL.next++e:=he
  refine⟨?_,?_⟩
  ·show sL.found=_
   rw[hfL,hfA,h1]
  ·have:=congrArg List.length he2
   rw[List.length_append] at this
   exact List.eq_nil_of_length_eq_zero (by omega)
 ·rw[fR.end_ ho]
  exact⟨sL.next,[],(List.append_nil _).symm,hS.next.symm,fun _=>⟨(hS.found ho).symm,rfl⟩⟩
variable {i0 : Nat}
theorem after_sync {f:Nat} (ha:a0≤j) (hi:i0≤j)
  (IH:∀(L R M:List (Nat × List Int)) (foU foA:Option (List Int × Int)) (su sa:Nat),FEq is text (j+1) L M→(foA.isSome=true→foU=foA∧R=[]) →
   (bM is st nn text i0 true f (j+1) M foA sa).1.isSome=true→(bM is st nn text a0 false f (j+1) (L++R) foU su).1=(bM is st nn text i0 true f (j+1) M foA sa).1)
  {sU sA:VSt} {L' e:List (Nat × List Int)} (hn:sU.next=L'++e) (hF:FEq is text (j+1) L' sA.next) (hI:sA.found.isSome=true→sU.found=sA.found∧e=[])
  (hs:(if sA.next.isEmpty && (sA.found.isSome || true) then (sA.found,sA.steps) else bM is st nn text i0 true f (j+1) sA.next sA.found sA.steps).1.isSome=true) :
  (if sU.next.isEmpty && (sU.found.isSome || false) then (sU.found,sU.steps) else bM is st nn text a0 false f (j+1) sU.next sU.found sU.steps).1 =
  (if sA.next.isEmpty && (sA.found.isSome || true) then (sA.found,sA.steps) else bM is st nn text i0 true f (j+1) sA.next sA.found sA.steps).1:=by
 by_cases hA:sA.next=[]
 ·rw[hA] at hs hF ⊢
  simp only[List.isEmpty_nil,Bool.or_true,Bool.and_self,if_true] at hs ⊢
  obtain⟨h1,rfl⟩:=hI hs
  rw[List.append_nil] at hn
  split
  ·exact h1
  ·rw[jo f (j+1) _ _ _ (by omega) (by rw[h1,hs];rfl) (by rw[hn];exact FEq.gW hF),h1]
 ·have hA2:sA.next.isEmpty=false:=by rw[Bool.eq_false_iff];intro h;exact hA (List.isEmpty_iff.1 h)
  rw[hA2] at hs ⊢
  simp only[Bool.false_and,Bool.false_eq_true,if_false] at hs ⊢
  split
  ·rename_i hU
   rw[Bool.and_eq_true] at hU
   have hU1:=List.isEmpty_iff.1 hU.1
   rw[hU1] at hn
   obtain⟨rfl,rfl⟩:=List.append_eq_nil_iff.1 hn.symm
   have hd:=FEq.gW (show FEq is text (j+1) sA.next [] from hF.symm)
   rw[jo f (j+1) _ _ _ (by omega) (by simp) hd] at hs ⊢
   exact(hI hs).1
  ·rw[hn]
   exact IH L' e sA.next sU.found sA.found sU.steps sA.steps hF hI hs
theorem sync (hai:a0≤i0):∀(f j:Nat) (L R M:List (Nat × List Int)) (foU foA:Option (List Int × Int)) (su sa:Nat),i0 < j→FEq is text j L M→(foA.isSome=true→foU=foA∧R=[]) →
  (bM is st nn text i0 true f j M foA sa).1.isSome=true→(bM is st nn text a0 false f j (L++R) foU su).1=(bM is st nn text i0 true f j M foA sa).1
 | 0,j,L,R,M,foU,foA,su,sa,_,_,hI,hs=>(hI hs).1
 | f+1,j,L,R,M,foU,foA,su,sa,hj,hF,hI,hs=>by
  have hA:(decide (j=i0) || !true && foA.isNone)=false:=by simp;omega
  have hU:(decide (j=a0) || !false && foU.isNone)=foU.isNone:=by rw[decide_eq_false (by omega)];simp
  rw[dz rfl,hA,dX] at hs
  rw[dz rfl,hU,dX,dz rfl,hA,dX]
  simp only[Bool.false_eq_true,if_false,List.append_nil] at hs ⊢
  rw[List.append_assoc]
  obtain⟨L',e,h1,h2,h3⟩:=step_sync (is:=is) (text:=text) (j:=j) L (R++if foU.isNone=true then [(st,nn)] else []) M foU foA su sa hF (fun h=>by
   obtain⟨h1,h2⟩:=hI h
   subst h1
   refine⟨rfl,?_⟩
   rw[h2]
   cases foU
   ·cases h
   ·rfl)
  exact after_sync (by omega) (by omega) (fun L R M foU foA su sa=>sync hai f (j+1) L R M foU foA su sa (by omega)) h1 h2 h3 hs
theorem ahead:∀(d f j:Nat) (ths:List (Nat × List Int)) (steps:Nat),a0≤j→(∀k,j≤k→k < j+d→¬dR is text k st)→(∀p∈ths,¬dR is text j p.1) →
  ∃ths' steps',(∀p∈ths',¬dR is text (j+d) p.1)∧(bM is st nn text a0 false (f+d) j ths none steps).1=(bM is st nn text a0 false f (j+d) ths' none steps').1
 | 0,f,j,ths,steps,_,_,hd=>⟨ths,steps,hd,rfl⟩
 | d+1,f,j,ths,steps,ha,hk,hd=>by
  have hU:(decide (j=a0) || !false && (none:Option (List Int × Int)).isNone)=true:=by simp
  have hdd:∀p∈ths++[(st,nn)],¬dR is text j p.1:=by
   intro p hp
   rcases List.mem_append.1 hp with h | h
   ·exact hd p h
   ·simp at h;rw[h];exact hk j (by omega) (by omega)
  have hs:=gW (is:=is) (text:=text) (j:=j) (ths++[(st,nn)]) (fresh is.length none steps) hdd
  have hfo:(ay is text j (ths++[(st,nn)]) (fresh is.length none steps)).found=none:=((eG (is:=is) (text:=text) (j:=j) (ths++[(st,nn)]) (fresh is.length none steps)).no hs.over).2
  have hnx:=FEq.gW (show FEq is text (j+1) (ay is text j (ths++[(st,nn)]) (fresh is.length none steps)).next [] from hs.next)
  obtain⟨t',s',h1,h2⟩:=ahead d f (j+1) (ay is text j (ths++[(st,nn)]) (fresh is.length none steps)).next (ay is text j (ths++[(st,nn)]) (fresh is.length none steps)).steps (by omega) (fun k h1 h2=>hk k (by omega) (by omega)) hnx
  have e1:j+1+d=j+(d+1):=by omega
  rw[e1] at h1 h2
  refine⟨t',s',h1,?_⟩
  rw[show f+(d+1)=(f+d)+1 by omega,dz rfl,hU,dX]
  simp only[if_true]
  rw[hfo]
  simp only[Option.isSome_none,Bool.or_false,Bool.and_false,Bool.false_eq_true,if_false]
  exact h2
theorem run_least (hR:Inside is) (hst:st < is.length) {m a i:Nat} (ha:a≤i) (hi:i≤text.length) (hh:dR is text i st) (hk:∀k,a≤k→k < i→¬dR is text k st) :
  (jv is st m text a false).1=(jv is st m text i true).1:=by
 unfold jv
 obtain⟨f,hf⟩:∃f,text.length+1 - i=f+1:=⟨text.length - i,by omega⟩
 have hs:=(search_iff (nn:=List.replicate m (-1)) hR hst hi 0).2 hh
 obtain⟨t',s',h1,h2⟩:=ahead (is:=is) (text:=text) (st:=st) (nn:=List.replicate m (-1)) (a0:=a) (i - a) (f+1) a [] 0 (Nat.le_refl _) (fun k h1 h2=>hk k h1 (by omega)) (by simp)
 have e1:a+(i - a)=i:=by omega
 rw[e1] at h1 h2
 rw[show text.length+1 - a=f+1+(i - a) by omega,h2,hf]
 rw[hf] at hs
 have hA:(decide (i=i) || !true && (none:Option (List Int × Int)).isNone)=true:=by simp
 have hU:(decide (i=a) || !false && (none:Option (List Int × Int)).isNone)=true:=by simp
 rw[dz rfl,hA,dX] at hs
 rw[dz rfl,hU,dX,dz rfl,hA,dX]
 simp only[if_true,List.nil_append] at hs ⊢
 have hF:FEq is text i (t'++[(st,List.replicate m (-1))]) [(st,List.replicate m (-1))]:=by
  have:=(FEq.dead h1).append (FEq.self (is:=is) (text:=text) (j:=i) [(st,List.replicate m (-1))])
  rwa [List.nil_append] at this
 obtain⟨L',e,g1,g2,g3⟩:=step_sync (is:=is) (text:=text) (j:=i) (t'++[(st,List.replicate m (-1))]) [] [(st,List.replicate m (-1))] none none s' 0 hF (fun h=>by cases h)
 rw[List.append_nil] at g1 g3
 exact after_sync (by omega) (Nat.le_refl _) (fun L R M foU foA su sa=>sync ha f (i+1) L R M foU foA su sa (by omega)) g1 g2 g3 hs
theorem run_none (hR:Inside is) (hst:st < is.length) {m a:Nat} (ha:a≤text.length) (hk:∀k,a≤k→k≤text.length→¬dR is text k st):(jv is st m text a false).1=none:=by
 unfold jv
 obtain⟨t',s',h1,h2⟩:=ahead (is:=is) (text:=text) (st:=st) (nn:=List.replicate m (-1)) (a0:=a) (text.length+1 - a) 0 a [] 0 (Nat.le_refl _) (fun k h1 h2=>hk k h1 (by omega)) (by simp)
 rw[Nat.zero_add] at h2
 rw[h2]
 rfl
theorem run_iff (hR:Inside is) (hst:st < is.length) {m i:Nat} (hi:i≤text.length):(jv is st m text i true).1.isSome=true↔dR is text i st:=search_iff hR hst hi 0
end
end
end Go.Proofs.Ytnkefclbchpafaa

/-
  What the document's run finds, anchored: the captures of the first walk through the program's graph. Plain.
-/
namespace Go.Proofs.Ytnkefclbchpafaa
set_option linter.unusedVariables false
abbrev BC:=Nat × Nat
abbrev Cp:=List Int→List Int
def mvI (x:av) (text:List Int) (j:Nat):List (BC × Cp) :=
 if x.op=2 then [((x.x.toNat,j),id),((x.y.toNat,j),id)]
 else if x.op=7 then [((x.x.toNat,j),id)]
 else if x.op=3 then [((x.x.toNat,j),fun c=>c.set x.arg.toNat (j:Int))]
 else if x.op=4 then if cZ x.arg (part text j 6) then [((x.x.toNat,j),id)] else []
 else if x.op=1 then if dI x.rs text j then [((x.x.toNat,j+1),id)] else []
 else []
def mvs (is:List av) (text:List Int) (q:BC):List (BC × Cp):=match is[q.1]? with
 | none=>[]
 | some x=>mvI x text q.2
def isM (is:List av) (q:BC):Prop:=∃x,is[q.1]?=some x∧x.op=5
theorem bV {is:List av} {text:List Int} {pc j:Nat} {x:av} (h:is[pc]?=some x):mvs is text (pc,j)=mvI x text j:=by simp[mvs,h]
theorem isM_mvs {is:List av} {text:List Int} (q:BC) (h:isM is q):mvs is text q=[]:=by
 obtain⟨x,h1,h2⟩:=h
 simp[mvs,h1,mvI,h2]
abbrev HtP (is:List av) (text:List Int):=Ht (mvs is text) (isM is)
abbrev GdP (is:List av) (text:List Int):=Gd (mvs is text) (isM is)
def noB:BC→Prop:=fun _=>False
section
variable {is : List av} {text : List Int} {j : Nat}
theorem mvs_up {q r:BC} {f:Cp} (h:(r,f)∈mvs is text q):q.2≤r.2:=by
 obtain⟨pc,j⟩:=q
 unfold mvs at h
 cases hx:is[pc]? with
 | none=>simp[hx] at h
 | some x =>
  simp only[hx] at h
  unfold mvI at h
  split at h
  ·simp at h;rcases h with⟨rfl,_⟩ | ⟨rfl,_⟩ <;> exact Nat.le_refl _
  split at h
  ·simp at h;obtain⟨rfl,_⟩:=h;exact Nat.le_refl _
  split at h
  ·simp at h;obtain⟨rfl,_⟩:=h;exact Nat.le_refl _
  split at h
  ·split at h
   ·simp at h;obtain⟨rfl,_⟩:=h;exact Nat.le_refl _
   ·simp at h
  split at h
  ·split at h
   ·simp at h;obtain⟨rfl,_⟩:=h;show j≤j+1;omega
   ·simp at h
  ·simp at h
theorem hits_iff {pc j:Nat}:HtP is text noB (pc,j)↔dR is text j pc:=by
 constructor
 ·intro h
  have key:∀q:BC,HtP is text noB q→dR is text q.2 q.1:=by
   intro q h
   induction h with
   | fin q h1 h2=>obtain⟨x,h3,h4⟩:=h2;exact .match_ h3 h4
   | go q r f h1 h2 _ ih =>
    obtain⟨pc,j⟩:=q
    unfold mvs at h2
    cases hx:is[pc]? with
    | none=>simp[hx] at h2
    | some x =>
     simp only[hx] at h2
     unfold mvI at h2
     split at h2
     ·simp at h2
      rcases h2 with⟨rfl,_⟩ | ⟨rfl,_⟩
      ·exact .altX hx (by assumption) ih
      ·exact .altY hx (by assumption) ih
     split at h2
     ·simp at h2;obtain⟨rfl,_⟩:=h2;exact .goes hx (.inl (by assumption)) ih
     split at h2
     ·simp at h2;obtain⟨rfl,_⟩:=h2;exact .goes hx (.inr (by assumption)) ih
     split at h2
     ·split at h2
      ·simp at h2;obtain⟨rfl,_⟩:=h2;exact .holds hx (by assumption) (by assumption) ih
      ·simp at h2
     split at h2
     ·split at h2
      ·simp at h2;obtain⟨rfl,_⟩:=h2;exact .rune hx (by assumption) (by assumption) ih
      ·simp at h2
     ·simp at h2
  exact key _ h
 ·intro h
  have nb:∀q,¬noB q:=fun _ h=>h
  induction h with
  | match_ h1 h2=>exact .fin _ (nb _) ⟨_,h1,h2⟩
  | altX h1 h2 _ ih=>exact .go _ _ id (nb _) (by rw[bV h1,mvI,if_pos h2];simp) ih
  | altY h1 h2 _ ih=>exact .go _ _ id (nb _) (by rw[bV h1,mvI,if_pos h2];simp) ih
  | @goes j pc x h1 h2 _ ih =>
   rcases h2 with h2 | h2
   ·exact .go _ (x.x.toNat,j) id (nb _) (by rw[bV h1,mvI,if_neg (by omega),if_pos h2];simp) ih
   ·exact .go _ (x.x.toNat,j) (fun c=>c.set x.arg.toNat (j:Int)) (nb _) (by rw[bV h1,mvI,if_neg (by omega),if_neg (by omega),if_pos h2];simp) ih
  | @holds j pc x h1 h2 h3 _ ih=>exact .go _ (x.x.toNat,j) id (nb _) (by rw[bV h1,mvI,if_neg (by omega),if_neg (by omega),if_neg (by omega),if_pos h2,if_pos h3];simp) ih
  | @rune j pc x h1 h2 h3 _ ih=>exact .go _ (x.x.toNat,j+1) id (nb _) (by rw[bV h1,mvI,if_neg (by omega),if_neg (by omega),if_neg (by omega),if_neg (by omega),if_pos h2,if_pos h3];simp) ih
def Lo (B:BC→Prop) (j:Nat):Prop:=∀q,B q→q.2≤j
theorem Lo.ins {B:BC→Prop} {j:Nat} (h:Lo B j) {q:BC} (hq:q.2≤j):Lo (ins B q) j:=fun x hx=>by
 rcases hx with rfl | hx
 ·exact hq
 ·exact h x hx
theorem ht_next {B:BC→Prop} {j pc:Nat} (hB:Lo B j):HtP is text B (pc,j+1)↔HtP is text noB (pc,j+1):=by
 have hP:∀x:BC,j+1≤x.2→∀r f,(r,f)∈mvs is text x→j+1≤r.2:=fun x hx r f h=>Nat.le_trans hx (mvs_up h)
 constructor
 ·exact fun h=>h.mono (fun _ h=>h.elim)
 ·exact fun h=>h.part (P:=fun x=>j+1≤x.2) hP (fun x hx hb=>by have:=hB x hb;omega) (Nat.le_refl _)
theorem gd_next {B:BC→Prop} {j pc:Nat} {c:List Int} {e:BC × List Int} (hB:Lo B j) (h:GdP is text noB (pc,j+1) c e):GdP is text B (pc,j+1) c e:=by
 have hP:∀x:BC,j+1≤x.2→∀r f,(r,f)∈mvs is text x→j+1≤r.2:=fun x hx r f h=>Nat.le_trans hx (mvs_up h)
 exact h.part (P:=fun x=>j+1≤x.2) hP (fun x hx=>⟨fun hb=>by have:=hB x hb;omega,fun h=>h.elim⟩) (Nat.le_refl _)
def OutT (is:List av) (text:List Int) (ths:List (Nat × List Int)) (j:Nat) (e:BC × List Int):Prop :=
 ∃l1 pc c l2,ths=l1++(pc,c)::l2∧(∀p∈l1,¬HtP is text noB (p.1,j))∧GdP is text noB (pc,j) c e
def Jn (is:List av) (text:List Int) (j:Nat) (s:VSt) (B:BC→Prop):Prop:=∀q,s.met[q]?=some true→¬HtP is text B (q,j)
theorem Jn.mono {j:Nat} {s:VSt} {B B':BC→Prop} (h:Jn is text j s B) (hb:∀x,B x→B' x):Jn is text j s B':=fun q hq hh=>h q hq (hh.mono hb)
def DeadN (is:List av) (text:List Int) (j:Nat) (l:List (Nat × List Int)):Prop:=∀p∈l,¬HtP is text noB (p.1,j)
def VNo (is:List av) (text:List Int) (j:Nat) (B:BC→Prop) (s t:VSt):Prop:=t.over=false∧t.found=s.found∧(∃l,t.next=s.next++l∧DeadN is text (j+1) l)∧Jn is text j t B∧∀q:Nat,s.met[q]?=some true→t.met[q]?=some true
def VYes (is:List av) (text:List Int) (j pc:Nat) (c:List Int) (B:BC→Prop) (s t:VSt):Prop :=
 (t.over=true∧(∃l,t.next=s.next++l∧DeadN is text (j+1) l)∧∃e w,t.found=some (e.2,w)∧GdP is text B (pc,j) c e) ∨
 (∃l p r,t.next=s.next++(l++p::r)∧j < text.length∧DeadN is text (j+1) l∧HtP is text noB (p.1,j+1)∧∀e,GdP is text noB (p.1,j+1) p.2 e→GdP is text B (pc,j) c e)
theorem VYes.via {j pc pc':Nat} {c c':List Int} {B B':BC→Prop} {s s' t:VSt} (h:VYes is text j pc' c' B' s' t) (hn:∃l,s'.next=s.next++l∧DeadN is text (j+1) l) (hg:∀e,GdP is text B' (pc',j) c' e→GdP is text B (pc,j) c e):VYes is text j pc c B s t:=by
 obtain⟨l0,h0,d0⟩:=hn
 rcases h with⟨h1,⟨l,h2,h3⟩,e,w,h4,h5⟩ | ⟨l,p,r,h1,hj,h2,h3,h4⟩
 ·refine .inl ⟨h1,⟨l0++l,by rw[h2,h0,List.append_assoc],fun q hq=>?_⟩,e,w,h4,hg e h5⟩
  rcases List.mem_append.1 hq with hq | hq
  ·exact d0 q hq
  ·exact h3 q hq
 ·refine .inr ⟨l0++l,p,r,by rw[h1,h0];simp,hj,fun q hq=>?_,h3,fun e he=>hg e (h4 e he)⟩
  rcases List.mem_append.1 hq with hq | hq
  ·exact d0 q hq
  ·exact h2 q hq
theorem VYes.later {j pc:Nat} {c:List Int} {B:BC→Prop} {s t u:VSt} (h:VYes is text j pc c B s t) (hu:Fnd t u):VYes is text j pc c B s u:=by
 rcases h with⟨h1,h2⟩ | ⟨l,p,r,h1,hj,h2,h3,h4⟩
 ·rw[hu.end_ h1]
  exact .inl ⟨h1,h2⟩
 ·obtain⟨e,he⟩:=hu.next
  exact .inr ⟨l,p,r++e,by rw[he,h1];simp,hj,h2,h3,h4⟩
theorem mark_met (s:VSt) {pc q:Nat} (h:s.met[q]?=some true):(aG s pc).met[q]?=some true:=by
 show(s.met.set pc true)[q]?=some true
 rw[List.getElem?_set]
 have:=(List.getElem?_eq_some_iff.1 h).1
 split
 ·rename_i e;subst e;simp[this]
 ·exact h
theorem mark_self (s:VSt) {pc:Nat} (h:s.met[pc]?=some false):(aG s pc).met[pc]?=some true:=by
 show(s.met.set pc true)[pc]?=some true
 rw[List.getElem?_set]
 have:=(List.getElem?_eq_some_iff.1 h).1
 simp[this]
theorem Jn.mark {j pc:Nat} {s:VSt} {B:BC→Prop} (h:Jn is text j s B):Jn is text j (aG s pc) (ins B (pc,j)):=fun q hq hh=>by
 by_cases e:q=pc
 ·subst e;exact hh.notB (.inl rfl)
 ·refine h q ?_ hh.out
  have:(s.met.set pc true)[q]?=some true:=hq
  rwa [List.getElem?_set_ne (fun x=>e x.symm)] at this
theorem one_move {j pc:Nat} {c:List Int} {B:BC→Prop} {x:av} {r:BC} {f:Cp} (hx:is[pc]?=some x) (hm:mvI x text j=[(r,f)]) (h5:x.op≠5) (hb:¬B (pc,j)) :
  (HtP is text B (pc,j)↔HtP is text (ins B (pc,j)) r)∧∀e,GdP is text (ins B (pc,j)) r (f c) e→GdP is text B (pc,j) c e:=by
 have hmv:mvs is text (pc,j)=[(r,f)]:=by rw[bV hx,hm]
 refine⟨⟨fun h=>?_,fun h=>.of_last hb (.inr ⟨r,f,by rw[hmv];simp,h⟩)⟩,fun e he=>.go B (pc,j) c [] r f [] e hb (by rw[hmv];rfl) (fun z hz=>by simp at hz) he⟩
 rcases h.last with⟨y,h1,h2⟩ | ⟨r',f',h1,h2⟩
 ·simp only at h1
  rw[hx] at h1
  injection h1 with h1
  subst h1
  exact absurd h2 h5
 ·rw[hmv] at h1
  simp at h1
  rw[←h1.1]
  exact h2
theorem no_move {j pc:Nat} {B:BC→Prop} {x:av} (hx:is[pc]?=some x) (hm:mvI x text j=[]) (h5:x.op≠5):¬HtP is text B (pc,j):=fun h=>by
 rcases h.last with⟨y,h1,h2⟩ | ⟨r',f',h1,h2⟩
 ·simp only at h1
  rw[hx] at h1
  injection h1 with h1
  subst h1
  exact h5 h2
 ·rw[bV hx,hm] at h1
  simp at h1
theorem visit_gd (hR:Inside is):∀(f pc:Nat) (c:List Int) (s:VSt) (B:BC→Prop),s.met.length=is.length→pc < is.length→s.met.count false < f→s.over=false→Lo B j→(∀q,B (q,j)→s.met[q]?=some true)→Jn is text j s B →
  (¬HtP is text B (pc,j)→VNo is text j B s (aO is text j f pc c s))∧(HtP is text B (pc,j)→VYes is text j pc c B s (aO is text j f pc c s))
 | 0,_,_,_,_,_,_,h,_,_,_,_=>by omega
 | f+1,pc,c,s,B,hl,hpc,hc,ho,hB,hm,hJ=>by
  have hml:pc < s.met.length:=by omega
  cases hmb:s.met[pc]? with
  | none=>rw[List.getElem?_eq_none_iff] at hmb;omega
  | some b =>
  cases b with
  | true =>
   rw[fB hmb]
   exact⟨fun _=>⟨ho,rfl,⟨[],by simp,fun p hp=>by simp at hp⟩,hJ,fun _ h=>h⟩,fun h=>absurd h (hJ pc hmb)⟩
  | false =>
  obtain⟨x,hx⟩:∃x,is[pc]?=some x:=⟨_,List.getElem?_eq_getElem hpc⟩
  have hb:¬B (pc,j):=fun h=>by rw[hm pc h] at hmb;cases hmb
  have hcm:=gK hmb
  have hl2:(aG s pc).met.length=is.length:=by show(s.met.set pc true).length=_;simp[hl]
  have hc2:(aG s pc).met.count false < f:=by show(s.met.set pc true).count false < f;omega
  have hB2:Lo (ins B (pc,j)) j:=hB.ins (Nat.le_refl _)
  have hm2:∀q,ins B (pc,j) (q,j)→(aG s pc).met[q]?=some true:=fun q hq=>by
   rcases hq with hq | hq
   ·injection hq with hq
    subst hq
    exact mark_self s hmb
   ·exact mark_met s (hm q hq)
  have hJ2:=hJ.mark (pc:=pc)
  have back:∀ {t:VSt},¬HtP is text B (pc,j)→Jn is text j t (ins B (pc,j))→Jn is text j t B:=fun hn h q hq hh=>h q hq (hh.bar hn)
  have vno:∀ {t:VSt},¬HtP is text B (pc,j)→VNo is text j (ins B (pc,j)) (aG s pc) t→VNo is text j B s t:=fun hn h=>⟨h.1,h.2.1,h.2.2.1,back hn h.2.2.2.1,fun q hq=>h.2.2.2.2 q (mark_met s hq)⟩
  have hs0:VNo is text j (ins B (pc,j)) (aG s pc) (aG s pc):=⟨ho,rfl,⟨[],by simp,fun p hp=>by simp at hp⟩,hJ2,fun _ h=>h⟩
  rw[gG ho hmb hx]
  obtain⟨hin1,hin2⟩:=hR pc x hx
  by_cases o2:x.op=2
  ·rw[if_pos o2]
   have hmv:mvs is text (pc,j)=[((x.x.toNat,j),id),((x.y.toNat,j),id)]:=by rw[bV hx,mvI,if_pos o2]
   obtain⟨i1,i2⟩:=visit_gd hR f x.x.toNat c (aG s pc) (ins B (pc,j)) hl2 (hin1 (by omega)) hc2 ho hB2 hm2 hJ2
   by_cases hX:HtP is text (ins B (pc,j)) (x.x.toNat,j)
   ·refine⟨fun hn=>absurd (Ht.of_last hb (.inr ⟨_,id,by rw[hmv];simp,hX⟩)) hn,fun _=>?_⟩
    exact((i2 hX).later (fM _ _ _ _)).via ⟨[],by simp[aG],fun p hp=>by simp at hp⟩ (fun e he=>.go B (pc,j) c [] _ id _ e hb hmv (fun z hz=>by simp at hz) he)
   ·have v1:=i1 hX
    have hl3:(aO is text j f x.x.toNat c (aG s pc)).met.length=is.length:=by rw[bF];exact hl2
    have hc3:=dV is text j f x.x.toNat c (aG s pc)
    obtain⟨k1,k2⟩:=visit_gd hR f x.y.toNat c (aO is text j f x.x.toNat c (aG s pc)) (ins B (pc,j)) hl3 (hin2 o2) (by omega) v1.1 hB2 (fun q hq=>v1.2.2.2.2 q (hm2 q hq)) v1.2.2.2.1
    obtain⟨l1,e1,d1⟩:=v1.2.2.1
    refine⟨fun hn=>vno hn ?_,fun hy=>?_⟩
    ·have v2:=k1 (fun hY=>hn (Ht.of_last hb (.inr ⟨_,id,by rw[hmv];simp,hY⟩)))
     obtain⟨l2,e2,d2⟩:=v2.2.2.1
     exact⟨v2.1,v2.2.1.trans v1.2.1,⟨l1++l2,by rw[e2,e1,List.append_assoc],fun p hp=>by
      rcases List.mem_append.1 hp with hp | hp
      ·exact d1 p hp
      ·exact d2 p hp⟩,v2.2.2.2.1,fun q hq=>v2.2.2.2.2 q (v1.2.2.2.2 q hq)⟩
    ·have hY:HtP is text (ins B (pc,j)) (x.y.toNat,j):=by
      rcases hy.last with⟨y,h1,h2⟩ | ⟨r,f',h1,h2⟩
      ·simp only at h1
       rw[hx] at h1
       injection h1 with h1
       subst h1
       omega
      ·rw[hmv] at h1
       simp at h1
       rcases h1 with⟨rfl,_⟩ | ⟨rfl,_⟩
       ·exact absurd h2 hX
       ·exact h2
     exact(k2 hY).via ⟨l1,by rw[e1];rfl,d1⟩ (fun e he=>.go B (pc,j) c [((x.x.toNat,j),id)] _ id [] e hb hmv (fun z hz=>by simp at hz;subst hz;exact hX) he)
  rw[if_neg o2]
  by_cases o7:x.op=7
  ·rw[if_pos o7]
   obtain⟨a1,a2⟩:=one_move (c:=c) (B:=B) hx (show mvI x text j=[((x.x.toNat,j),id)] by rw[mvI,if_neg o2,if_pos o7]) (by omega) hb
   obtain⟨i1,i2⟩:=visit_gd hR f x.x.toNat c (aG s pc) (ins B (pc,j)) hl2 (hin1 (by omega)) hc2 ho hB2 hm2 hJ2
   exact⟨fun hn=>vno hn (i1 (fun h=>hn (a1.2 h))),fun hy=>(i2 (a1.1 hy)).via ⟨[],by simp[aG],fun p hp=>by simp at hp⟩ a2⟩
  rw[if_neg o7]
  by_cases o3:x.op=3
  ·rw[if_pos o3]
   obtain⟨a1,a2⟩:=one_move (c:=c) (B:=B) hx (show mvI x text j=[((x.x.toNat,j),fun c=>c.set x.arg.toNat (j:Int))] by rw[mvI,if_neg o2,if_neg o7,if_pos o3]) (by omega) hb
   obtain⟨i1,i2⟩:=visit_gd hR f x.x.toNat (c.set x.arg.toNat (j:Int)) (aG s pc) (ins B (pc,j)) hl2 (hin1 (by omega)) hc2 ho hB2 hm2 hJ2
   exact⟨fun hn=>vno hn (i1 (fun h=>hn (a1.2 h))),fun hy=>(i2 (a1.1 hy)).via ⟨[],by simp[aG],fun p hp=>by simp at hp⟩ a2⟩
  rw[if_neg o3]
  by_cases o4:x.op=4
  ·rw[if_pos o4]
   by_cases hh:cZ x.arg (part text j 6)=true
   ·rw[if_pos hh]
    obtain⟨a1,a2⟩:=one_move (c:=c) (B:=B) hx (show mvI x text j=[((x.x.toNat,j),id)] by rw[mvI,if_neg o2,if_neg o7,if_neg o3,if_pos o4,if_pos hh]) (by omega) hb
    obtain⟨i1,i2⟩:=visit_gd hR f x.x.toNat c (aG s pc) (ins B (pc,j)) hl2 (hin1 (by omega)) hc2 ho hB2 hm2 hJ2
    exact⟨fun hn=>vno hn (i1 (fun h=>hn (a1.2 h))),fun hy=>(i2 (a1.1 hy)).via ⟨[],by simp[aG],fun p hp=>by simp at hp⟩ a2⟩
   ·rw[if_neg hh]
    have hno:=no_move (B:=B) (j:=j) (text:=text) hx (by rw[mvI,if_neg o2,if_neg o7,if_neg o3,if_pos o4,if_neg hh]) (by omega)
    exact⟨fun hn=>vno hn hs0,fun hy=>absurd hy hno⟩
  rw[if_neg o4]
  by_cases o1:x.op=1
  ·rw[if_pos o1]
   by_cases hh:dI x.rs text j=true
   ·rw[if_pos hh]
    obtain⟨a1,a2⟩:=one_move (c:=c) (B:=B) hx (show mvI x text j=[((x.x.toNat,j+1),id)] by rw[mvI,if_neg o2,if_neg o7,if_neg o3,if_neg o4,if_pos o1,if_pos hh]) (by omega) hb
    refine⟨fun hn=>vno hn ⟨ho,rfl,⟨[(x.x.toNat,c)],rfl,fun p hp hh2=>?_⟩,hJ2,fun _ h=>h⟩,fun hy=>.inr ⟨[],(x.x.toNat,c),[],rfl,fitsB_lt hh,fun p hp=>by simp at hp,(ht_next hB2).1 (a1.1 hy),fun e he=>a2 e (gd_next hB2 he)⟩⟩
    simp at hp
    subst hp
    exact hn (a1.2 ((ht_next hB2).2 hh2))
   ·rw[if_neg hh]
    have hno:=no_move (B:=B) (j:=j) (text:=text) hx (by rw[mvI,if_neg o2,if_neg o7,if_neg o3,if_neg o4,if_pos o1,if_neg hh]) (by omega)
    exact⟨fun hn=>vno hn hs0,fun hy=>absurd hy hno⟩
  rw[if_neg o1]
  by_cases o5:x.op=5
  ·rw[if_pos o5]
   exact⟨fun hn=>absurd (Ht.fin (pc,j) hb ⟨x,hx,o5⟩) hn,fun _=>.inl ⟨rfl,⟨[],by simp[aG],fun p hp=>by simp at hp⟩,((pc,j),c),x.arg,rfl,.fin B (pc,j) c hb ⟨x,hx,o5⟩⟩⟩
  ·rw[if_neg o5]
   have hno:=no_move (B:=B) (j:=j) (text:=text) hx (by rw[mvI,if_neg o2,if_neg o7,if_neg o3,if_neg o4,if_neg o1]) o5
   exact⟨fun hn=>vno hn hs0,fun hy=>absurd hy hno⟩
theorem visit_in (hR:Inside is):∀(f pc:Nat) (c:List Int) (s:VSt),∀p∈(aO is text j f pc c s).next,p∈s.next∨p.1 < is.length
 | 0,_,_,_,p,h=>.inl h
 | f+1,pc,c,s,p,h=>by
  rcases ho:s.over with _ | _
  rotate_left
  ·rw[fO ho] at h;exact .inl h
  rcases hm:s.met[pc]? with _ | m
  ·rw[iX hm] at h;exact .inl h
  rcases m with _ | _
  rotate_left
  ·rw[fB hm] at h;exact .inl h
  rcases hx:is[pc]? with _ | x
  ·rw[gZ hx] at h;exact .inl h
  obtain⟨hin1,hin2⟩:=hR pc x hx
  rw[gG ho hm hx] at h
  split at h
  ·rcases visit_in hR f _ _ _ p h with h | h
   ·exact visit_in hR f _ _ (aG s pc) p h
   ·exact .inr h
  split at h
  ·exact visit_in hR f _ _ (aG s pc) p h
  split at h
  ·exact visit_in hR f _ _ (aG s pc) p h
  split at h
  ·split at h
   ·exact visit_in hR f _ _ (aG s pc) p h
   ·exact .inl h
  split at h
  ·split at h
   ·rename_i o1 _
    rcases List.mem_append.1 h with h | h
    ·exact .inl h
    ·simp at h
     subst h
     exact .inr (hin1 (.inl o1))
   ·exact .inl h
  split at h
  ·exact .inl h
  ·exact .inl h
theorem all_in (hR:Inside is):∀(l:List (Nat × List Int)) (s:VSt),∀p∈(ay is text j l s).next,p∈s.next∨p.1 < is.length
 | [],_,p,h=>.inl h
 | x::r,s,p,h=>by
  rcases all_in hR r _ p h with h | h
  ·exact visit_in hR _ _ _ _ p h
  ·exact .inr h
theorem all_gd (hR:Inside is):∀(l:List (Nat × List Int)) (s:VSt),s.met.length=is.length→(∀p∈l,p.1 < is.length)→s.over=false→Jn is text j s noB →
  (DeadN is text j l→VNo is text j noB s (ay is text j l s))∧(∀l1 p l2,l=l1++p::l2→DeadN is text j l1→HtP is text noB (p.1,j)→VYes is text j p.1 p.2 noB s (ay is text j l s))
 | [],s,_,_,ho,hJ=>⟨fun _=>⟨ho,rfl,⟨[],by simp[ay],fun p hp=>by simp at hp⟩,hJ,fun _ h=>h⟩,fun l1 p l2 h=>by simp at h⟩
 | x::r,s,hl,hp,ho,hJ=>by
  have hcl:s.met.count false < is.length+1:=by have:=List.count_le_length (a:=false) (l:=s.met);omega
  obtain⟨i1,i2⟩:=visit_gd (text:=text) (j:=j) hR (is.length+1) x.1 x.2 s noB hl (hp x (by simp)) hcl ho (fun q h=>h.elim) (fun q h=>h.elim) hJ
  have hl2:(aO is text j (is.length+1) x.1 x.2 s).met.length=is.length:=by rw[bF];exact hl
  show(_→VNo is text j noB s (ay is text j r (aO is text j (is.length+1) x.1 x.2 s)))∧(∀(l1:List (Nat × List Int)) (p:Nat × List Int) (l2:List (Nat × List Int)),_→_→_→VYes is text j p.1 p.2 noB s (ay is text j r (aO is text j (is.length+1) x.1 x.2 s)))
  by_cases hx:HtP is text noB (x.1,j)
  ·refine⟨fun hd=>absurd hx (hd x (by simp)),fun l1 p l2 e hd hh=>?_⟩
   cases l1 with
   | nil =>
    simp at e
    obtain⟨rfl,rfl⟩:=e
    exact(i2 hx).later (eG _ _)
   | cons y l1 =>
    simp at e
    obtain⟨rfl,rfl⟩:=e
    exact absurd hx (hd x (by simp))
  ·have v1:=i1 hx
   obtain⟨k1,k2⟩:=all_gd hR r _ hl2 (fun p h=>hp p (by simp[h])) v1.1 v1.2.2.2.1
   obtain⟨m1,e1,d1⟩:=v1.2.2.1
   refine⟨fun hd=>?_,fun l1 p l2 e hd hh=>?_⟩
   ·have v2:=k1 (fun p h=>hd p (by simp[h]))
    obtain⟨m2,e2,d2⟩:=v2.2.2.1
    exact⟨v2.1,v2.2.1.trans v1.2.1,⟨m1++m2,by rw[e2,e1,List.append_assoc],fun p h=>by
     rcases List.mem_append.1 h with h | h
     ·exact d1 p h
     ·exact d2 p h⟩,v2.2.2.2.1,fun q h=>v2.2.2.2.2 q (v1.2.2.2.2 q h)⟩
   ·cases l1 with
    | nil =>
     simp at e
     obtain⟨rfl,rfl⟩:=e
     exact absurd hh hx
    | cons y l1 =>
     simp at e
     obtain⟨rfl,rfl⟩:=e
     exact(k2 l1 p l2 rfl (fun q h=>hd q (by simp[h])) hh).via ⟨m1,e1,d1⟩ (fun e h=>h)
theorem first_live:∀(l:List (Nat × List Int)),(∃p∈l,HtP is text noB (p.1,j))→∃l1 p l2,l=l1++p::l2∧DeadN is text j l1∧HtP is text noB (p.1,j)
 | [],h=>by obtain⟨p,hp,-⟩:=h;simp at hp
 | x::r,h=>by
  by_cases hx:HtP is text noB (x.1,j)
  ·exact⟨[],x,r,rfl,fun p hp=>by simp at hp,hx⟩
  ·obtain⟨p,hp,hh⟩:=h
   rcases List.mem_cons.1 hp with rfl | hp
   ·exact absurd hh hx
   ·obtain⟨l1,q,l2,e,d,g⟩:=first_live r ⟨p,hp,hh⟩
    exact⟨x::l1,q,l2,by rw[e];rfl,fun y hy=>by
     rcases List.mem_cons.1 hy with rfl | hy
     ·exact hx
     ·exact d y hy,g⟩
theorem OutT.of_live {l1 l2:List (Nat × List Int)} {p:Nat × List Int} {e:BC × List Int} (hd:DeadN is text j l1) (h:OutT is text (l1++p::l2) j e) (hp:HtP is text noB (p.1,j)):GdP is text noB (p.1,j) p.2 e:=by
 obtain⟨m1,pc,c,m2,he,d2,g⟩:=h
 have key:∀ {l1 m1 l2 m2:List (Nat × List Int)} {a b:Nat × List Int},l1++a::l2=m1++b::m2→DeadN is text j l1→DeadN is text j m1→HtP is text noB (a.1,j)→HtP is text noB (b.1,j)→a=b:=by
  intro l1
  induction l1 with
  | nil =>
   intro m1 l2 m2 a b h _ h2 ha hb
   cases m1 with
   | nil=>simp at h;exact h.1
   | cons y m1 =>
    simp at h
    exact absurd ha (h2 a (by simp[h.1]))
  | cons y l1 ih =>
   intro m1 l2 m2 a b h h1 h2 ha hb
   cases m1 with
   | nil =>
    simp at h
    exact absurd hb (h1 b (by simp[h.1]))
   | cons z m1 =>
    simp at h
    exact ih h.2 (fun q hq=>h1 q (by simp[hq])) (fun q hq=>h2 q (by simp[hq])) ha hb
 have:=key he hd d2 hp g.hit
 subst this
 exact g
theorem search_gd (hR:Inside is) {st:Nat} {nn:List Int} {a0:Nat} (hst:st < is.length):∀(f j:Nat) (ths:List (Nat × List Int)) (fo:Option (List Int × Int)) (steps:Nat),f+j=text.length+1→j≤text.length→(∀p∈ths,p.1 < is.length)→a0≤j →
  (∃p∈ths++(if decide (j=a0)=true then [(st,nn)] else []),HtP is text noB (p.1,j))→∃e w,(bM is st nn text a0 true f j ths fo steps).1=some (e.2,w)∧OutT is text (ths++(if decide (j=a0)=true then [(st,nn)] else [])) j e
 | 0,j,ths,fo,steps,hfj,hj,_,_,_=>by omega
 | f+1,j,ths,fo,steps,hfj,hj,hp,ha,hlive=>by
  have hours:(decide (j=a0) || !true && fo.isNone)=decide (j=a0):=by simp
  rw[dz rfl,hours,dX]
  generalize hL:(ths++if decide (j=a0)=true then [(st,nn)] else [])=L at hlive
  have hLp:∀p∈L,p.1 < is.length:=by
   intro p h
   rw[←hL] at h
   rcases List.mem_append.1 h with h | h
   ·exact hp p h
   ·split at h
    ·simp at h;subst h;exact hst
    ·simp at h
  obtain⟨l1,p,l2,e,hd,hh⟩:=first_live L hlive
  have hv:=(all_gd (text:=text) (j:=j) hR L (fresh is.length fo steps) (fresh_len _ _ _) hLp rfl (fun q hq=>by simp[fresh,List.getElem?_replicate] at hq)).2 l1 p l2 e hd hh
  have hin:=all_in (text:=text) (j:=j) hR L (fresh is.length fo steps)
  generalize ay is text j L (fresh is.length fo steps)=s9 at hv hin
  rcases hv with⟨h1,⟨l,h2,h3⟩,e9,w,h4,h5⟩ | ⟨l,q,r,h2,hjl,h3,h4,h5⟩
  ·refine⟨e9,w,?_,l1,p.1,p.2,l2,e,hd,h5⟩
   split
   ·exact h4
   ·rw[jo f (j+1) _ _ _ (show a0 < j+1 by omega) (by simp) (fun y hy hh=>?_),h4]
    rw[h2] at hy
    simp[fresh] at hy
    exact h3 y hy (hits_iff.2 hh)
  ·have hne:s9.next.isEmpty=false:=by rw[h2];simp[fresh]
   rw[hne]
   simp only[Bool.false_and,Bool.false_eq_true,if_false]
   have hn9:s9.next=l++q::r:=by rw[h2];simp[fresh]
   have hnp:decide (j+1=a0)=false:=decide_eq_false (by omega)
   obtain⟨e9,w,k1,k2⟩:=search_gd hR (nn:=nn) (a0:=a0) hst f (j+1) s9.next s9.found s9.steps (by omega) (by omega) (fun y hy=>(hin y hy).elim (fun h=>by simp[fresh] at h) id) (by omega) ⟨q,by rw[hn9];simp,h4⟩
   rw[hnp,hn9] at k2
   simp only[Bool.false_eq_true,if_false,List.append_nil] at k2
   exact⟨e9,w,k1,l1,p.1,p.2,l2,e,hd,h5 e9 (OutT.of_live h3 k2 h4)⟩
theorem run_gd (hR:Inside is) {st m a:Nat} (hst:st < is.length) (ha:a≤text.length) (h:dR is text a st):∃e w,(jv is st m text a true).1=some (e.2,w)∧GdP is text noB (st,a) (List.replicate m (-1)) e:=by
 obtain⟨e,w,h1,h2⟩:=search_gd hR (nn:=List.replicate m (-1)) (a0:=a) hst (text.length+1 - a) a [] none 0 (by omega) ha (fun p h=>by simp at h) (Nat.le_refl _) ⟨(st,List.replicate m (-1)),by simp,hits_iff.2 h⟩
 have h3:=OutT.of_live (l1:=[]) (l2:=[]) (p:=(st,List.replicate m (-1))) (fun p hp=>by simp at hp) (by simpa using h2) (hits_iff.2 h)
 exact⟨e,w,h1,h3⟩
end
end Go.Proofs.Ytnkefclbchpafaa
