/-
  ProgW, Put9, Graph, put together.
-/
import Derived.Test.YtnkefclbchpafaaZ07Tab
import Derived.Test.YtnkefclbchpafaaZ05RefLook
import Derived.Test.YtnkefclbchpafaaZ01PlainP

/-
  A program under way, of the call's own. Derived from s10.
-/
namespace Go.Proofs.Ytnkefclbchpafaa
open Go.RowKit
set_option linter.unusedVariables false
theorem own_lo {w:World} {base e n size:Nat} {v:Value} {xs:List Value} (h:w.ownsRow base e size v n xs) {g:Nat} (hg:v.ownBlock=some g):base≤g:=by
 obtain⟨-,h | ⟨b,cap,cur,rfl,hb,-⟩⟩:=h
 ·obtain⟨h1,-⟩:=h
  subst h1
  cases hg
 ·simp[Value.ownBlock] at hg
  omega
def jW:List av→List (Option Addr × Nat)→List Value
 | x::is,(B,c)::gs=>(dx x B x.rs.length c).toList++jW is gs
 | _,_=>[]
structure ProgW (w:World) (base:Nat) (A:Option Addr) (c:Nat) (is:List av) (gs:List (Option Addr × Nat)):Prop where
 len:gs.length=is.length
 row:w.ownsRow base 64 5 (.slice A is.length c) is.length (jW is gs)
 own:∀(i:Nat) (x:av) (B:Option Addr) (cc:Nat),is[i]?=some x→gs[i]?=some (B,cc)→w.ownsRow base 66 2 (.slice B x.rs.length cc) x.rs.length (iF x.rs)
 apart:∀(i j:Nat) (B B':Option Addr) (cc cc':Nat) (b:Nat),gs[i]?=some (B,cc)→gs[j]?=some (B',cc')→B.map (·.block)=some b→B'.map (·.block)=some b→i=j
theorem fP {B:Option Addr} {n c b:Nat}:(Value.slice B n c).ownBlock=some b↔B.map (·.block)=some b:=by
 cases B <;> simp[Value.ownBlock]
theorem ProgW.upd {F:Nat→Prop} {w w':World} {base c:Nat} {A:Option Addr} {is:List av} {gs:List (Option Addr × Nat)} (h:ProgW w base A c is gs) (hU:Upd F w w') (hF:∀b,base≤b→¬F b):ProgW w' base A c is gs :=
 ⟨h.len,aJ h.row hU (fun b hb=>hF b (own_lo h.row hb)),fun i x B cc hx hg=>aJ (h.own i x B cc hx hg) hU (fun b hb=>hF b (own_lo (h.own i x B cc hx hg) hb)),h.apart⟩
theorem flatI_append:∀(is:List av) (gs:List (Option Addr × Nat)) (x:av) (B:Option Addr) (c:Nat),gs.length=is.length→jW (is++[x]) (gs++[(B,c)])=jW is gs++(dx x B x.rs.length c).toList
 | [],[],x,B,c,_=>by simp[jW]
 | y::is,(B',c')::gs,x,B,c,h=>by
  simp only[List.cons_append,jW]
  rw[flatI_append is gs x B c (by simpa using h),List.append_assoc]
 | [],_::_,_,_,_,h=>by simp at h
 | _::_,[],_,_,_,h=>by simp at h
theorem ProgW.more {w w':World} {base c cN:Nat} {A:Option Addr} {gN:Nat} {is:List av} {gs:List (Option Addr × Nat)} {x:av} {B:Option Addr} {cc:Nat} (h:ProgW w base A c is gs)
  (ho:w.ownsRow base 66 2 (.slice B x.rs.length cc) x.rs.length (iF x.rs)) (hap:∀(i:Nat) (B':Option Addr) (cc':Nat) (b:Nat),gs[i]?=some (B',cc')→B'.map (·.block)=some b→¬B.map (·.block)=some b)
  (oN:w'.ownsRow base 64 5 (.slice (some ⟨gN,0,none⟩) (is.length+1) cN) (is.length+1) (jW is gs++(dx x B x.rs.length cc).toList)) (gr:w.grownBy w' (Value.slice A is.length c).ownBlock) :
  ProgW w' base (some ⟨gN,0,none⟩) cN (is++[x]) (gs++[(B,cc)]):=by
 have UB:=(Upd.refl (fun b=>(Value.slice A is.length c).ownBlock=some b) w).grown gr (fun b hb _=>hb)
 have keep:∀ {v:Value} {n:Nat} {xs:List Value},w.ownsRow base 66 2 v n xs→w'.ownsRow base 66 2 v n xs:=fun {v n xs} o=>aJ o UB (fun b hb hb2=>by
  obtain⟨cur,hc,_⟩:=aK h.row hb2
  exact own_ne o hc (by decide) hb)
 refine⟨by simp[h.len],?_,fun i y B' cc' hy hg=>?_,fun i j B1 B2 c1 c2 b h1 h2 e1 e2=>?_⟩
 ·rw[flatI_append _ _ _ _ _ h.len,List.length_append]
  exact oN
 ·by_cases hi:i < is.length
  ·rw[List.getElem?_append_left hi] at hy
   rw[List.getElem?_append_left (by rw[h.len];exact hi)] at hg
   exact keep (h.own i y B' cc' hy hg)
  ·rw[List.getElem?_append_right (by omega)] at hy
   rw[List.getElem?_append_right (by rw[h.len];omega),h.len] at hg
   have hz:i - is.length=0:=by
    have:=(List.getElem?_eq_some_iff.1 hy).1
    simp at this
    omega
   rw[hz] at hy hg
   simp only[List.getElem?_cons_zero,Option.some.injEq,Prod.mk.injEq] at hy hg
   obtain⟨rfl,rfl⟩:=hg
   subst hy
   exact keep ho
 ·have hlast:∀(i:Nat) (B1:Option Addr) (c1:Nat),(gs++[(B,cc)])[i]?=some (B1,c1)→(gs[i]?=some (B1,c1))∨(i=is.length∧B1=B):=fun i B1 c1 hg=>by
   by_cases hi:i < gs.length
   ·rw[List.getElem?_append_left hi] at hg
    exact .inl hg
   ·rw[List.getElem?_append_right (by omega)] at hg
    have hz:i - gs.length=0:=by
     have:=(List.getElem?_eq_some_iff.1 hg).1
     simp at this
     omega
    rw[hz] at hg
    simp only[List.getElem?_cons_zero,Option.some.injEq,Prod.mk.injEq] at hg
    exact .inr ⟨by rw[←h.len];omega,hg.1.symm⟩
  rcases hlast i B1 c1 h1 with k1 | ⟨k1,k3⟩ <;> rcases hlast j B2 c2 h2 with k2 | ⟨k2,k4⟩
  ·exact h.apart i j B1 B2 c1 c2 b k1 k2 e1 e2
  ·exact absurd (k4 ▸ e2) (hap i B1 c1 b k1 e1)
  ·exact absurd (k3 ▸ e1) (hap j B2 c2 b k2 e2)
  ·omega
end Go.Proofs.Ytnkefclbchpafaa

/-
  The walks of heronref09's row.full and row.put.
-/
namespace Go.Proofs.Ytnkefclbchpafaa
set_option maxRecDepth 100000
set_option maxHeartbeats 16000000
open Go.RowKit
set_option linter.unusedVariables false
theorem full9_any (w:World) (rb n c:Nat) (A:Option Addr) (hr:Cells w rb 90 #[.slice A n c]) (hn:n≤140737488355328) :
  Calls Try.prog 42 #[.pointer (some ⟨rb,0,none⟩)] w fun e w'=>e=.returned (.bool (decide (20000 < n)))∧w=w':=by
 have e0:w.cell? ⟨rb,0,none⟩=some (.slice A n c):=hr.ak rfl
 by_cases h:20000 < n
 ·have g:(20000:Int) < (n:Int):=by omega
  rw[decide_eq_true h]
  clear hr h
  go_enter Try.func42,Try.ntmps42
  go_wp2_with fail
  try go_ret
  exact⟨rfl,rfl⟩
 ·have g:¬(20000:Int) < (n:Int):=by omega
  rw[decide_eq_false h]
  clear hr h
  go_enter Try.func42,Try.ntmps42
  go_wp2_with fail
  try go_ret
  exact⟨rfl,rfl⟩
theorem iinfo9:(Try.prog.info? 64).map (fun i=>(i.zero,i.size,i.bytes))=some (some (.agg #[.int .i64 0,.int .i64 0,.int .i64 0,.int .i64 0,.slice none 0 0]),5,56):=by kernel_rfl
structure fC (w:World) (base rb:Nat) (A:Option Addr) (c:Nat) (is:List av) (gs:List (Option Addr × Nat)):Prop where
 box:Cells w rb 90 #[.slice A is.length c]
 prog:ProgW w base A c is gs
 lo:rb < base
 hi:base≤w.heap.size
 few:is.length≤1000000
def Put9 (w:World) (base rb:Nat) (A:Option Addr) (c:Nat) (is:List av) (gs:List (Option Addr × Nat)) (x:av) (e:Ending) (w':World):Prop :=
 e=.returned (.int .i64 (is.length:Int))∧∃A' c',Cells w' rb 90 #[.slice A' (is.length+1) c']∧ProgW w' base A' c' (is++[x]) (gs++[(none,0)])∧Upd (fun b=>b=rb∨(Value.slice A is.length c).ownBlock=some b) w w'∧(∀b,A'.map (·.block)=some b→A.map (·.block)=some b∨w.heap.size≤b)
theorem put9_any {w:World} {base rb c:Nat} {A:Option Addr} {is:List av} {gs:List (Option Addr × Nat)} (h:fC w base rb A c is gs) (op arg:Int) :
  Calls Try.prog 40 #[.pointer (some ⟨rb,0,none⟩),.int .i64 op,.int .i64 arg] w (Put9 w base rb A c is gs ⟨op,(is.length:Int)+1,0,arg,[]⟩):=by
 obtain⟨i0,hi0,hz0,hz1,hz2⟩:=info_parts iinfo9
 obtain⟨hb,hp,hlo,hhi,hfew⟩:=h
 obtain⟨N,hN⟩:∃N,is.length=N:=⟨_,rfl⟩
 have e0:w.cell? ⟨rb,0,none⟩=some (.slice A N c):=by rw[←hN];exact hb.ak rfl
 have HB:=ah hb
 have HP:=ah hp
 generalize hQ:Put9 w base rb A c is gs ⟨op,(is.length:Int)+1,0,arg,[]⟩=Q
 have HQ:=ah hQ
 clear hQ hb hp
 have bnd:(N:Int)≤1000000:=by omega
 go_enter Try.func40,Try.ntmps40
 have HR:=ah (show w.ownsRow base 64 5 (.slice A N c) N (jW is gs) by rw[←hN];exact HP.out.row)
 go_wp2_with (at_builtin;refine wpList_append_own_at _ rfl _ _ 25 rfl base 64 i0 _ 5 56 Try.underlying25 hi0 hz0 hz1 hz2 rfl (by decide) _ _ _ rfl (HR.out.alloc _) ⟨w.heap.size,0,none⟩ 1 1 [.int .i64 op,.int .i64 ((N:Int)+1),.int .i64 0,.int .i64 arg,.slice none 0 0] rfl rfl ?c1 ?c2 ?c3 ?c4 ?c5 ?_)
 case c1 =>
  intro j u hj
  match j,hj with
  | 0,hj=>simp at hj;subst hj;simp[Addr.add]
  | 1,hj=>simp at hj;subst hj;simp[Addr.add]
  | 2,hj=>simp at hj;subst hj;simp[Addr.add]
  | 3,hj=>simp at hj;subst hj;simp[Addr.add]
  | 4,hj=>simp at hj;subst hj;simp[Addr.add]
 case c2=>intro u hu;simp at hu;rcases hu with rfl | rfl | rfl | rfl | rfl <;> rfl
 case c3=>unfold maxLen;omega
 case c4=>omega
 case c5=>simp;omega
 intro v' w2 hown' hg _ hat
 obtain⟨A',c',rfl⟩:=dG hown'
 have hAb:(Value.slice A N c).ownBlock≠some rb:=own_ne HR.out HB.out (by decide)
 have hb1:Cells w rb 90 #[.slice A N c]:=by rw[←hN];exact HB.out
 have hb2:Cells w2 rb 90 #[.slice A N c]:=(hb1.alloc _).grown hg hAb
 have f0:=hb2.frozen 0
 have HB2:=ah hb2
 have HO:=ah hown'
 have HG:=ah hg
 have HH:=ah hat
 clear e0 hb1 hown' hg hat
 have e0:w2.cell? ⟨rb,0,none⟩=some (.slice A N c):=hb2.ak rfl
 clear hb2
 go_wp2_with fail
 try go_ret
 subst hN
 rw[←HQ.out]
 have hO:=HO.out
 obtain⟨g,rfl⟩:∃g,A'=some ⟨g,0,none⟩:=by
  rcases hO.2 with⟨hv,h0⟩ | ⟨g,cap,cur,hv,-⟩
  ·omega
  ·injection hv with hv
   exact⟨g,hv⟩
 have U1:Upd Nob w (w.alloc (.cells #[.int .i64 op,.int .i64 ((is.length:Int)+1),.int .i64 0,.int .i64 arg,.slice none 0 0] 64)):=(Upd.refl Nob w).alloc _
 have UB:=(U1.mono (G:=fun b=>b=rb∨(Value.slice A is.length c).ownBlock=some b) (fun k _ h=>absurd h aj)).grown HG.out (fun b hb _=>.inr hb)
 have pm:=ProgW.more (x:=⟨op,(is.length:Int)+1,0,arg,[]⟩) (B:=none) (cc:=0) (HP.out.upd U1 (fun _ _=>aj)) (World.ownsRow_nil _ _ _ _) (fun _ _ _ _ _ _ h=>by cases h) hO HG.out
 refine⟨rfl,_,_,HB2.out.aW 0 _,pm.upd ((Upd.refl (fun b=>b=rb) w2).setCell _ _ (fun _=>rfl)) (fun b hb e=>by omega),UB.setCell _ _ (fun _=>.inl rfl),fun b hb=>?_⟩
 have hb2:(Value.slice (some (⟨g,0,none⟩:Addr)) (is.length+1) c').ownBlock=some b:=fP.2 hb
 rcases HH.out with h | h
 ·rw[h] at hb2
  exact .inl (fP.1 hb2)
 ·rw[h] at hb2
  injection hb2 with hb2
  have hsz:(w.alloc (.cells #[.int .i64 op,.int .i64 ((is.length:Int)+1),.int .i64 0,.int .i64 arg,.slice none 0 0] 64)).heap.size=w.heap.size+1:=by simp
  exact .inr (by omega)
end Go.Proofs.Ytnkefclbchpafaa

/-
  Walks through an ordered graph that may not come back to where they have been: which can come to an end, and the first of them. Plain.
-/
namespace Go.Proofs.Ytnkefclbchpafaa
set_option linter.unusedVariables false
section
variable {σ C : Type}
def ins (B:σ→Prop) (q:σ):σ→Prop:=fun x=>x=q∨B x
inductive Ht (mv:σ→List (σ × (C→C))) (fin:σ→Prop) (B:σ→Prop):σ→Prop
 | fin (q:σ):¬B q→fin q→Ht mv fin B q
 | go (q r:σ) (f:C→C):¬B q→(r,f)∈mv q→Ht mv fin B r→Ht mv fin B q
inductive Gd (mv:σ→List (σ × (C→C))) (fin:σ→Prop):(σ→Prop)→σ→C→σ × C→Prop
 | fin (B:σ→Prop) (q:σ) (c:C):¬B q→fin q→Gd mv fin B q c (q,c)
 | go (B:σ→Prop) (q:σ) (c:C) (l1:List (σ × (C→C))) (r:σ) (f:C→C) (l2:List (σ × (C→C))) (e:σ × C):¬B q→mv q=l1++(r,f)::l2→(∀z∈l1,¬Ht mv fin (ins B q) z.1)→Gd mv fin (ins B q) r (f c) e→Gd mv fin B q c e
variable {mv : σ → List (σ × (C → C))} {fin : σ → Prop} {B B' : σ → Prop} {q r x : σ} {c : C} {e e' : σ × C}
theorem Ht.notB (h:Ht mv fin B q):¬B q:=by cases h <;> assumption
theorem Ht.mono (h:Ht mv fin B' q) (hb:∀x,B x→B' x):Ht mv fin B q:=by
 induction h with
 | fin q h1 h2=>exact .fin q (fun h=>h1 (hb _ h)) h2
 | go q r f h1 h2 _ ih=>exact .go q r f (fun h=>h1 (hb _ h)) h2 ih
theorem Ht.out (h:Ht mv fin (ins B q) x):Ht mv fin B x:=h.mono (fun _ h=>.inr h)
theorem Ht.cut (h:Ht mv fin B x) (q:σ):Ht mv fin (ins B q) x∨(¬B q∧(fin q∨∃r f,(r,f)∈mv q∧Ht mv fin (ins B q) r)):=by
 induction h with
 | fin x h1 h2 =>
  by_cases e:x=q
  ·subst e;exact .inr ⟨h1,.inl h2⟩
  ·exact .inl (.fin x (fun h=>by rcases h with h | h;exact e h;exact h1 h) h2)
 | go x r f h1 h2 _ ih =>
  rcases ih with ih | ih
  ·by_cases e:x=q
   ·subst e;exact .inr ⟨h1,.inr ⟨r,f,h2,ih⟩⟩
   ·exact .inl (.go x r f (fun h=>by rcases h with h | h;exact e h;exact h1 h) h2 ih)
  ·exact .inr ih
theorem Ht.last (h:Ht mv fin B q):fin q∨∃r f,(r,f)∈mv q∧Ht mv fin (ins B q) r:=by
 rcases h.cut q with h | h
 ·exact absurd (.inl rfl) h.notB
 ·exact h.2
theorem Ht.bar (h:Ht mv fin B x) (hq:¬Ht mv fin B q):Ht mv fin (ins B q) x:=by
 rcases h.cut q with h | ⟨h1,h2⟩
 ·exact h
 ·refine absurd ?_ hq
  rcases h2 with h2 | ⟨r,f,h2,h3⟩
  ·exact .fin q h1 h2
  ·exact .go q r f h1 h2 h3.out
theorem Ht.of_last (hb:¬B q) (h:fin q∨∃r f,(r,f)∈mv q∧Ht mv fin (ins B q) r):Ht mv fin B q:=by
 rcases h with h | ⟨r,f,h1,h2⟩
 ·exact .fin q hb h
 ·exact .go q r f hb h1 h2.out
theorem Gd.hit (h:Gd mv fin B q c e):Ht mv fin B q:=by
 induction h with
 | fin B q c h1 h2=>exact .fin q h1 h2
 | go B q c l1 r f l2 e h1 h2 h3 _ ih=>exact .go q r f h1 (by rw[h2];simp) ih.out
theorem split_first {P:σ × (C→C)→Prop}:∀ {l1 l1' l2 l2':List (σ × (C→C))} {a b:σ × (C→C)},l1++a::l2=l1'++b::l2'→(∀z∈l1,¬P z)→(∀z∈l1',¬P z)→P a→P b→a=b
 | [],[],_,_,_,_,h,_,_,_,_=>by simp at h;exact h.1
 | [],y::l,_,_,_,_,h,_,h2,ha,_=>by
  simp at h
  exact absurd ha (h2 _ (by simp[h.1]))
 | y::l,[],_,_,_,_,h,h1,_,_,hb=>by
  simp at h
  exact absurd hb (h1 _ (by simp[h.1]))
 | y::l,z::m,_,_,_,_,h,h1,h2,ha,hb=>by
  simp at h
  exact split_first h.2 (fun w hw=>h1 w (by simp[hw])) (fun w hw=>h2 w (by simp[hw])) ha hb
theorem Gd.eq (hf:∀q,fin q→mv q=[]) (h:Gd mv fin B q c e):∀ {e':σ × C},Gd mv fin B q c e'→e=e':=by
 induction h with
 | fin B q c h1 h2 =>
  intro e' h
  cases h with
  | fin=>rfl
  | go _ _ _ l1 r f l2 _ _ h4=>rw[hf q h2] at h4;simp at h4
 | go B q c l1 r f l2 e h1 h2 h3 h4 ih =>
  intro e' h
  cases h with
  | fin _ _ _ _ h6=>rw[hf q h6] at h2;simp at h2
  | go _ _ _ m1 r' f' m2 _ _ k2 k3 k4 =>
   rw[h2] at k2
   have:=split_first (P:=fun z=>Ht mv fin (ins B q) z.1) k2 h3 k3 h4.hit k4.hit
   injection this with a b
   subst a b
   exact ih k4
theorem Ht.part {P:σ→Prop} (hP:∀x,P x→∀r f,(r,f)∈mv x→P r) (hB:∀x,P x→B' x→B x) (h:Ht mv fin B q) (hq:P q):Ht mv fin B' q:=by
 induction h with
 | fin q h1 h2=>exact .fin q (fun h=>h1 (hB _ hq h)) h2
 | go q r f h1 h2 _ ih=>exact .go q r f (fun h=>h1 (hB _ hq h)) h2 (ih (hP q hq r f h2))
theorem Gd.part {P:σ→Prop} (hP:∀x,P x→∀r f,(r,f)∈mv x→P r) (h:Gd mv fin B q c e):∀ {B':σ→Prop},(∀x,P x→(B' x↔B x))→P q→Gd mv fin B' q c e:=by
 induction h with
 | fin B q c h1 h2=>exact fun hB hq=>.fin _ q c (fun h=>h1 ((hB q hq).1 h)) h2
 | go B q c l1 r f l2 e h1 h2 h3 _ ih =>
  intro B' hB hq
  have hB2:∀x,P x→(ins B' q x↔ins B q x):=fun x hx=>by
   unfold ins
   rw[hB x hx]
  have hr:∀z∈mv q,P z.1:=fun z hz=>hP q hq z.1 z.2 hz
  refine .go _ q c l1 r f l2 e (fun h=>h1 ((hB q hq).1 h)) h2 (fun z hz hh=>h3 z hz ?_) (ih hB2 (hr (r,f) (by rw[h2];simp)))
  exact hh.part hP (fun x hx h=>(hB2 x hx).2 h) (hr z (by rw[h2];simp[hz]))
end
end Go.Proofs.Ytnkefclbchpafaa
