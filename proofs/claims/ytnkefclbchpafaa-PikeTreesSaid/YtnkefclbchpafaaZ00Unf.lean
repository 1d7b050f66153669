/-
  Mem, View, Unf, put together.
-/
import Derived.WalkKit
import Derived.Laws.OwnMore
import Derived.Deep.AppendLies
import Derived.Deep.Draws
import Derived.Maps.AppendAt
import Derived.ProofKit
import Derived.OpenShut
import Derived.ShutString
import Derived.ChangeOld
import Derived.SizedLaws

/-
  Words for memory, used by all walks of this seat: a block known whole ('Cells'), what a call may have turned ('Upd'), a slice that reads as a list of cells ('Reads'). Plain lemmas; nothing of the program.
-/
namespace Go.Proofs.Ytnkefclbchpafaa
open Go.RowKit
set_option linter.unusedVariables false
def Cells (w:World) (b:Nat) (t:TypeId) (cs:Array Value):Prop:=w.heap[b]?=some (.cells cs t (0,0))
structure Upd (F:Nat→Prop) (w w':World):Prop where
 os:w'.os=w.os
 tape:w'.tape=w.tape
 output:w'.output=w.output
 size:w.heap.size≤w'.heap.size
 block:∀k,k < w.heap.size→¬F k→w'.heap[k]?=w.heap[k]?
def Nob:Nat→Prop:=fun _=>False
theorem aj {k:Nat}:¬Nob k:=fun h=>h
namespace Upd
variable {F G : Nat → Prop} {w w' w'' : World}
theorem refl (F:Nat→Prop) (w:World):Upd F w w:=⟨rfl,rfl,rfl,Nat.le_refl _,fun _ _ _=>rfl⟩
theorem trans (h:Upd F w w') (g:Upd G w' w'') (hs:∀k,k < w.heap.size→G k→F k):Upd F w w'' :=
 ⟨g.os.trans h.os,g.tape.trans h.tape,g.output.trans h.output,Nat.le_trans h.size g.size,
  fun k hk hF=>(g.block k (Nat.lt_of_lt_of_le hk h.size) (fun e=>hF (hs k hk e))).trans (h.block k hk hF)⟩
theorem mono (h:Upd F w w') (hs:∀k,k < w.heap.size→F k→G k):Upd G w w':=⟨h.os,h.tape,h.output,h.size,fun k hk hG=>h.block k hk (fun e=>hG (hs k hk e))⟩
theorem drew (h:Upd F w w'):Upd F w w'.drew:=⟨h.os,h.tape,h.output,h.size,h.block⟩
theorem drewN (h:Upd F w w') (n:Nat):Upd F w (w'.drewN n):=⟨h.os,h.tape,h.output,h.size,h.block⟩
theorem alloc (h:Upd F w w') (o:Obj):Upd F w (w'.alloc o) :=
 ⟨h.os,h.tape,h.output,Nat.le_trans h.size (by simp),fun k hk hF=>(Below.heap_alloc _ _ _ (Nat.lt_of_lt_of_le hk h.size)).trans (h.block k hk hF)⟩
theorem setCell (h:Upd F w w') (p:Addr) (u:Value) (hp:p.block < w.heap.size→F p.block):Upd F w (w'.setCell p u) :=
 ⟨h.os,h.tape,h.output,by simpa [World.setCell] using h.size,fun k hk hF=>(Below.heap_setCell _ _ _ _ (fun e=>hF (by subst e;exact hp hk))).trans (h.block k hk hF)⟩
theorem grown (h:Upd F w w') {row:Option Nat} (hg:w'.grownBy w'' row) (hr:∀k,row=some k→k < w.heap.size→F k):Upd F w w'' :=
 ⟨hg.os.trans h.os,hg.tape.trans h.tape,hg.output.trans h.output,Nat.le_trans h.size hg.size,
  fun k hk hF=>(hg.block k (Nat.lt_of_lt_of_le hk h.size) (fun e=>hF (hr k e.symm hk))).trans (h.block k hk hF)⟩
theorem below (h:Upd F w w') {B:Nat} (hB:B≤w.heap.size) (hF:∀k,k < B→¬F k):Below B w w' :=
 ⟨h.os,h.tape,h.output,h.size,fun k hk=>h.block k (Nat.lt_of_lt_of_le hk hB) (hF k hk)⟩
theorem cell (h:Upd F w w') {p:Addr} (hp:p.block < w.heap.size) (hF:¬F p.block):w'.cell? p=w.cell? p:=World.cell?_of_block (h.block _ hp hF)
theorem frozen (h:Upd F w w') {p:Addr} (hp:p.block < w.heap.size) (hF:¬F p.block):w'.frozen? p=w.frozen? p:=World.frozen?_of_block (h.block _ hp hF)
end Upd
namespace Cells
variable {F : Nat → Prop} {w w' : World} {b : Nat} {t : TypeId} {cs : Array Value}
theorem lt (h:Cells w b t cs):b < w.heap.size:=(Array.getElem?_eq_some_iff.1 h).1
theorem cell (h:Cells w b t cs) (i:Nat):w.cell? ⟨b,i,none⟩=cs[i]?:=cell_of_row w b i cs t (0,0) h
theorem ak (h:Cells w b t cs) {i:Nat} {v:Value} (hi:cs[i]?=some v):w.cell? ⟨b,i,none⟩=some v:=(h.cell i).trans hi
theorem frozen (h:Cells w b t cs) (i:Nat):w.frozen? ⟨b,i,none⟩=false:=frozen_of_row w b i cs t h
theorem new (w:World) (t:TypeId) (cs:Array Value):Cells (w.alloc (.cells cs t)) w.heap.size t cs:=heap_alloc_new w _
theorem drew (h:Cells w b t cs):Cells w.drew b t cs:=h
theorem drewN (h:Cells w b t cs) (n:Nat):Cells (w.drewN n) b t cs:=h
theorem alloc (h:Cells w b t cs) (o:Obj):Cells (w.alloc o) b t cs:=(Below.heap_alloc w o b h.lt).trans h
theorem aW (h:Cells w b t cs) (i:Nat) (u:Value):Cells (w.setCell ⟨b,i,none⟩ u) b t (cs.setIfInBounds i u):=by
 unfold Cells at h ⊢
 simp[World.setCell,Array.getElem?_modify,h]
theorem far (h:Cells w b t cs) (p:Addr) (u:Value) (hp:b≠p.block):Cells (w.setCell p u) b t cs:=(Below.heap_setCell w p u b hp).trans h
theorem upd (h:Cells w b t cs) (hU:Upd F w w') (hF:¬F b):Cells w' b t cs:=(hU.block b h.lt hF).trans h
theorem grown (h:Cells w b t cs) {row:Option Nat} (hg:w.grownBy w' row) (hr:row≠some b):Cells w' b t cs:=(hg.block b h.lt (fun e=>hr e.symm)).trans h
theorem below {B:Nat} (h:Cells w b t cs) (hb:Below B w w') (hB:b < B):Cells w' b t cs:=(hb.block b hB).trans h
theorem ne_ {b':Nat} {t':TypeId} {cs':Array Value} (h:Cells w b t cs) (h':Cells w b' t' cs') (hne:t≠t'):b≠b':=by
 rintro rfl
 unfold Cells at h h'
 rw[h] at h'
 injection h' with h'
 injection h' with _ ht
 exact hne ht
end Cells
section
variable {F : Nat → Prop} {w w' : World} {base e size n : Nat} {v : Value} {xs : List Value}
theorem dG (h:w.ownsRow base e size v n xs):∃A c,v=.slice A n c:=by
 rcases h.2 with⟨rfl,rfl⟩ | ⟨g,cap,cur,rfl,_⟩
 ·exact⟨_,_,rfl⟩
 ·exact⟨_,_,rfl⟩
theorem aJ (h:w.ownsRow base e size v n xs) (hU:Upd F w w') (hF:∀k,v.ownBlock=some k→¬F k):w'.ownsRow base e size v n xs:=by
 refine⟨h.1,?_⟩
 rcases h.2 with hn | ⟨g,cap,cur,rfl,hb,hg,r⟩
 ·exact .inl hn
 ·exact .inr ⟨g,cap,cur,rfl,hb,(hU.block g (Array.getElem?_eq_some_iff.1 hg).1 (hF g rfl)).trans hg,r⟩
theorem bN (h:w.ownsRow base e size v n xs) (p:Addr) (u:Value) (hp:v.ownBlock≠some p.block):(w.setCell p u).ownsRow base e size v n xs:=by
 refine⟨h.1,?_⟩
 rcases h.2 with hn | ⟨g,cap,cur,rfl,hb,hg,r⟩
 ·exact .inl hn
 ·exact .inr ⟨g,cap,cur,rfl,hb,(Below.heap_setCell w p u g (fun e=>hp (by simp[Value.ownBlock,e]))).trans hg,r⟩
theorem own_ne {b:Nat} {t:TypeId} {cs:Array Value} (h:w.ownsRow base e size v n xs) (hc:Cells w b t cs) (hne:e≠t):v.ownBlock≠some b:=by
 rcases h.2 with⟨rfl,_⟩ | ⟨g',cap,cur,rfl,_,hh,_⟩
 ·simp[Value.ownBlock]
 ·intro he
  have:g'=b:=by simpa [Value.ownBlock] using he
  subst this
  exact Cells.ne_ (t:=e) hh hc hne rfl
theorem kS {base':Nat} (h:w.ownsRow base e size v n xs) (hb:∀g,v.ownBlock=some g→base'≤g):w.ownsRow base' e size v n xs:=by
 refine⟨h.1,?_⟩
 rcases h.2 with hn | ⟨g,cap,cur,rfl,_,r⟩
 ·exact .inl hn
 ·exact .inr ⟨g,cap,cur,rfl,hb g rfl,r⟩
theorem aK (h:w.ownsRow base e size v n xs) {g:Nat} (hg:v.ownBlock=some g):∃cur,Cells w g e cur∧cur.toList.take (n*size)=xs:=by
 rcases h.2 with⟨rfl,_⟩ | ⟨g',cap,cur,rfl,_,hh,_,_,_,ht⟩
 ·simp[Value.ownBlock] at hg
 ·have:g'=g:=by simpa [Value.ownBlock] using hg
  subst this
  exact⟨cur,hh,ht⟩
end
theorem add_block (a:Addr) (n:Nat):(a.add n).block=a.block:=by unfold Addr.add;split <;> rfl
theorem add_add_ (a:Addr) (i j:Nat):(a.add i).add j=a.add (i+j):=by
 unfold Addr.add
 by_cases hi:i=0 <;> by_cases hj:j=0 <;> simp[hi,hj,Nat.add_assoc]
theorem bX (g o n:Nat):(⟨g,o,none⟩:Addr).add n=⟨g,o+n,none⟩:=by unfold Addr.add;split <;> simp_all
def Reads (w:World) (S:Nat→Prop) (size:Nat) (A:Option Addr) (n:Nat) (xs:List Value):Prop :=
 xs.length=n*size∧(0 < n→∃ad,A=some ad∧ad.block < w.heap.size∧S ad.block∧∀j u,xs[j]?=some u→w.cell? (ad.add j)=some u)
namespace Reads
variable {S S' F : Nat → Prop} {w w' : World} {size n : Nat} {A : Option Addr} {xs : List Value}
theorem upd (h:Reads w S size A n xs) (hU:Upd F w w') (hF:∀k,S k→¬F k):Reads w' S size A n xs :=
 ⟨h.1,fun hn=>by
  obtain⟨ad,e,hb,hs,hc⟩:=h.2 hn
  exact⟨ad,e,Nat.lt_of_lt_of_le hb hU.size,hs,fun j u hu=>(hU.cell (p:=ad.add j) (by rw[add_block];exact hb) (by rw[add_block];exact hF _ hs)).trans (hc j u hu)⟩⟩
theorem weaken (h:Reads w S size A n xs) (hs:∀k,S k→S' k):Reads w S' size A n xs :=
 ⟨h.1,fun hn=>by obtain⟨ad,e,hb,hs',hc⟩:=h.2 hn;exact⟨ad,e,hb,hs _ hs',hc⟩⟩
theorem alloc (h:Reads w S size A n xs) (o:Obj):Reads (w.alloc o) S size A n xs:=h.upd (F:=Nob) ((Upd.refl _ _).alloc o) (fun _ _=>aj)
theorem drew (h:Reads w S size A n xs):Reads w.drew S size A n xs:=h
theorem nil_:Reads w S size A 0 []:=⟨by simp,fun h=>absurd h (by omega)⟩
theorem eU {base e c:Nat} (h:w.ownsRow base e size (.slice A n c) n xs):Reads w (fun k=>(Value.slice A n c).ownBlock=some k) size A n xs:=by
 refine⟨h.1,fun hn=>?_⟩
 rcases h.2 with⟨_,rfl⟩ | ⟨g,cap,cur,hv,hb,hg,_⟩
 ·omega
 ·obtain⟨rfl,_,rfl⟩:A=some ⟨g,0,none⟩∧n=n∧c=cap:=by injection hv with a b c;exact⟨a,b,c⟩
  exact⟨_,rfl,(Array.getElem?_eq_some_iff.1 hg).1,rfl,h.cells rfl⟩
theorem at1 (h:Reads w S 1 A n xs) {k:Nat} (hk:k < n):∃ad u,A=some ad∧ad.block < w.heap.size∧S ad.block∧xs[k]?=some u∧w.cell? (ad.add k)=some u:=by
 obtain⟨ad,e,hb,hs,hc⟩:=h.2 (by omega)
 have hl:k < xs.length:=by have:=h.1;omega
 exact⟨ad,xs[k],e,hb,hs,List.getElem?_eq_getElem hl,hc k _ (List.getElem?_eq_getElem hl)⟩
end Reads
end Go.Proofs.Ytnkefclbchpafaa

/-
  From the row's reading of an argument to the words of XMem: a slice of integers.
-/
namespace Go.Proofs.Ytnkefclbchpafaa
open Go.ChangeShapes Go.WideShapes Go.ChangeAt Go.RowKit
set_option linter.unusedVariables false
def bn (xs:List Int):List Value:=xs.map (Value.int .i64)
theorem intv_at {xs:List Int} {k:Nat} {x:Int} (h:xs[k]?=some x):(bn xs)[k]?=some (.int .i64 x):=by simp[bn,h]
theorem intv_one (xs:List Int):∀u∈bn xs,u.oneCell'=true:=by
 intro u hu
 simp only[bn,List.mem_map] at hu
 obtain⟨_,_,rfl⟩:=hu
 rfl
theorem Reads.int1 {w:World} {S:Nat→Prop} {A:Option Addr} {n k:Nat} {xs:List Int} (h:Reads w S 1 A n (bn xs)) (hk:k < n) :
  ∃ad x,A=some ad∧xs[k]?=some x∧w.cell? (ad.add k)=some (.int .i64 x):=by
 obtain⟨ad,u,e,_,_,hu,hc⟩:=h.at1 hk
 simp only[bn,List.getElem?_map,Option.map_eq_some_iff] at hu
 obtain⟨x,hx,rfl⟩:=hu
 exact⟨ad,x,e,hx,hc⟩
def In64 (x:Int):Prop:=-9223372036854775808≤x∧x≤9223372036854775807
theorem in64_of_wf {x:Int} (h:(Lit.int .i64 x).wf=true):In64 x:=by
 unfold In64
 simp[Lit.wf,IntKind.min,IntKind.max,IntKind.signed,IntKind.bits] at h
 omega
section
variable {H : Type} {enc : TypeId × Value → H} {P : Program} {W : World} {t e : TypeId} {A : Option Addr} {n c : Nat} {d : DataW H} {p : List MemPlace}
def places (d:DataW H):Nat:=match d with | .slice es sp=>es.length+sp.length | _=>0
theorem view_ints (ht:P.underlying t=some (.slice e)) (he:P.underlying e=some (.int .i64)) (hc:P.cellsOf e=1)
  (h:DataW.Trod enc P W 0 (fun _=>true) true t (.slice A n c) d p) :
  ∃xs:List Int,Reads W (· < W.heap.size) 1 A n (bn xs)∧(∀x∈xs,In64 x)∧n≤c∧c=places d∧(d=.nil∨∃es sp,d=.slice es sp):=by
 obtain⟨fuel,hf⟩:=h
 rcases open_ints ht he hc hf with⟨hcs,hx⟩ | ⟨a,len,cap,zs,hcs,_,hl,hm,hz,hx,hcell,hwz⟩
 ·simp only[Value.cells,List.cons.injEq,and_true,Value.slice.injEq] at hcs
  obtain⟨rfl,rfl,rfl⟩:=hcs
  injection hx with hx _
  subst hx
  exact⟨[],Reads.nil_,by simp,Nat.le_refl _,rfl,.inl rfl⟩
 ·simp only[Value.cells,List.cons.injEq,and_true,Value.slice.injEq] at hcs
  obtain⟨rfl,rfl,rfl⟩:=hcs
  injection hx with hx _
  subst hx
  simp only[if_true] at hz
  refine⟨zs.take n,⟨by simp[bn];omega,fun hn=>?_⟩,fun x hx=>in64_of_wf (hwz x (List.mem_of_mem_take hx)),hl,?_,.inr ⟨_,_,rfl⟩⟩
  ·have h0:=hcell 0 (by omega)
   have hb:=World.block_lt_of_cell? W _ h0
   rw[add_block] at hb
   refine⟨a,rfl,hb,hb,fun j u hu=>?_⟩
   simp only[bn,List.getElem?_map,Option.map_eq_some_iff] at hu
   obtain⟨x,hx,rfl⟩:=hu
   rw[List.getElem?_take] at hx
   split at hx
   ·rw[hcell j (by omega)]
    simp[List.getD,hx]
   ·cases hx
  ·simp[places,lits];omega
end
end Go.Proofs.Ytnkefclbchpafaa

/-
  Unfolded trees as rows of nodes, and the walk through them depth first, with what was begun and decided kept: plain; what it finds is what can be come to.
-/
namespace Go.Proofs.Ytnkefclbchpafaa
set_option linter.unusedVariables false
structure Env where
 cls:List (Int × Int)→Nat→Bool
 asr:Int→Nat→Bool
inductive UT where
 | eps | cls (rs:List (Int × Int)) | asr (a:Int) | cat (l:List UT) | alt (l:List UT) | grp (ix:Int) (x:UT)
 | star (x:UT) (lz:Bool) | plus (x:UT) (lz:Bool) | quest (x:UT) (lz:Bool)
structure PN where
 kind:Int
 asr:Int
 ix:Int
 rs:List (Int × Int)
 subs:List Nat
 lz:Bool
 up:Int
 nth:Int
inductive StarR (R:Nat→Nat→Prop):Nat→Nat→Prop
 | nil (i):StarR R i i
 | cons (i j k):R i j→StarR R j k→StarR R i k
theorem StarR.one {R:Nat→Nat→Prop} {i j:Nat} (h:R i j):StarR R i j:=.cons _ _ _ h (.nil _)
theorem StarR.trans {R:Nat→Nat→Prop} {i j k:Nat} (h:StarR R i j) (g:StarR R j k):StarR R i k:=by
 induction h with
 | nil=>exact g
 | cons i j k h1 _ ih=>exact .cons _ _ _ h1 (ih g)
mutual
def kQ (E:Env):UT→Nat→Nat→Prop
 | .eps,i,j=>i=j
 | .cls rs,i,j=>E.cls rs i=true∧j=i+1
 | .asr a,i,j=>E.asr a i=true∧i=j
 | .cat l,i,j=>fitC E l i j
 | .alt l,i,j=>fitA E l i j
 | .grp _ x,i,j=>kQ E x i j
 | .star x _,i,j=>StarR (kQ E x) i j
 | .plus x _,i,j=>∃k,kQ E x i k∧StarR (kQ E x) k j
 | .quest x _,i,j=>i=j∨kQ E x i j
def fitC (E:Env):List UT→Nat→Nat→Prop
 | [],i,j=>i=j
 | x::r,i,j=>∃k,kQ E x i k∧fitC E r k j
def fitA (E:Env):List UT→Nat→Nat→Prop
 | [],_,_=>False
 | x::r,i,j=>kQ E x i j∨fitA E r i j
end
theorem fitA_iff (E:Env):∀(l:List UT) (i j:Nat),fitA E l i j↔∃x∈l,kQ E x i j
 | [],i,j=>by simp[fitA]
 | x::r,i,j=>by rw[fitA,fitA_iff E r];simp
mutual
inductive Rep (l:List PN):UT→Nat→Prop
 | eps (n:Nat) (x:PN):l[n]?=some x→x.kind=1→Rep l .eps n
 | cls (n:Nat) (x:PN):l[n]?=some x→x.kind=2→Rep l (.cls x.rs) n
 | asr (n:Nat) (x:PN):l[n]?=some x→x.kind=3→Rep l (.asr x.asr) n
 | cat (n:Nat) (x:PN) (us:List UT):l[n]?=some x→x.kind=4→x.subs≠[]→dW l us n 0 x.subs→Rep l (.cat us) n
 | alt (n:Nat) (x:PN) (us:List UT):l[n]?=some x→x.kind=5→dW l us n 0 x.subs→Rep l (.alt us) n
 | grp (n:Nat) (x:PN) (u:UT):l[n]?=some x→x.kind=7→dW l [u] n 0 x.subs→Rep l (.grp x.ix u) n
 | star (n:Nat) (x:PN) (u:UT):l[n]?=some x→x.kind=101→dW l [u] n 0 x.subs→Rep l (.star u x.lz) n
 | plus (n:Nat) (x:PN) (u:UT):l[n]?=some x→x.kind=102→dW l [u] n 0 x.subs→Rep l (.plus u x.lz) n
 | quest (n:Nat) (x:PN) (u:UT):l[n]?=some x→x.kind=103→dW l [u] n 0 x.subs→Rep l (.quest u x.lz) n
inductive dW (l:List PN):List UT→Nat→Nat→List Nat→Prop
 | nil (n k:Nat):dW l [] n k []
 | cons (n k:Nat) (u:UT) (us:List UT) (s:Nat) (ss:List Nat) (x:PN):Rep l u s→l[s]?=some x→x.up=(n:Int)→x.nth=(k:Int)→dW l us n (k+1) ss→dW l (u::us) n k (s::ss)
end
theorem dW.none {l:List PN} {n k:Nat} {ss:List Nat} (h:dW l [] n k ss):ss=[]:=by
 cases h
 rfl
theorem dW.one {l:List PN} {u:UT} {n:Nat} {ss:List Nat} (h:dW l [u] n 0 ss):∃s x,ss=[s]∧Rep l u s∧l[s]?=some x∧x.up=(n:Int)∧x.nth=0:=by
 cases h with
 | cons _ _ _ _ s ss x h1 h2 h3 h4 h5 =>
  cases h5
  exact⟨s,x,rfl,h1,h2,h3,h4⟩
inductive Ctx where
 | top | seq (rest:List UT) (k:Ctx) | one (k:Ctx) | loop (x:UT) (k:Ctx)
inductive RepC (l:List PN):Ctx→Nat→Prop
 | top (n:Nat) (x:PN):l[n]?=some x→x.up < 0→RepC l .top n
 | seq (n:Nat) (x:PN) (m:Nat) (y:PN) (us:List UT) (ss:List Nat) (c:Ctx) (k:Nat):l[n]?=some x→x.up=(m:Int)→x.nth=(k:Int)→l[m]?=some y→y.kind=4→y.subs.drop (k+1)=ss→dW l us m (k+1) ss→RepC l c m→RepC l (.seq us c) n
 | one (n:Nat) (x:PN) (m:Nat) (y:PN) (c:Ctx):l[n]?=some x→x.up=(m:Int)→l[m]?=some y→y.kind=5∨y.kind=7∨y.kind=103→RepC l c m→RepC l (.one c) n
 | loop (n:Nat) (x:PN) (m:Nat) (y:PN) (u:UT) (c:Ctx):l[n]?=some x→x.up=(m:Int)→l[m]?=some y→y.kind=101∨y.kind=102→y.subs=[n]→Rep l u n→RepC l c m→RepC l (.loop u c) n
def outC (E:Env):Ctx→Nat→Nat→Prop
 | .top,i,e=>i=e
 | .seq us c,i,e=>∃k,fitC E us i k∧outC E c k e
 | .one c,i,e=>outC E c i e
 | .loop x c,i,e=>∃k,StarR (kQ E x) i k∧outC E c k e
inductive Cf where
 | B (n p:Nat) | D (n p:Nat) | H (n p:Nat) | E (p:Nat)
def aR (x:PN):Nat:=x.subs.getD 0 0
def succs (E:Env) (l:List PN):Cf→List Cf
 | .B n p=>match l[n]? with
  | none=>[]
  | some x=>if x.kind=1 then [.H n p]
   else if x.kind=2 then (if E.cls x.rs p=true then [.H n (p+1)] else [])
   else if x.kind=3 then (if E.asr x.asr p=true then [.H n p] else [])
   else if x.kind=4∨x.kind=102 then [.B (aR x) p]
   else if x.kind=5 then x.subs.map (fun s=>.B s p)
   else if x.kind=7 then [.B (aR x) p]
   else if x.kind=103 then [.B (aR x) p,.H n p]
   else if x.kind=101 then [.D n p]
   else []
 | .D n p=>match l[n]? with
  | none=>[]
  | some x=>[.B (aR x) p,.H n p]
 | .H n p=>match l[n]? with
  | none=>[]
  | some x=>if x.up < 0 then [.E p] else match l[x.up.toNat]? with
   | none=>[]
   | some y=>if y.kind=4 then (if x.nth.toNat+1 < y.subs.length then [.B (y.subs.getD (x.nth.toNat+1) 0) p] else [.H x.up.toNat p])
    else if y.kind=7 then [.H x.up.toNat p]
    else if y.kind=101∨y.kind=102 then [.D x.up.toNat p]
    else [.H x.up.toNat p]
 | .E _=>[]
inductive Rch (E:Env) (l:List PN):Cf→Cf→Prop
 | nil (c):Rch E l c c
 | cons (a b c):b∈succs E l a→Rch E l b c→Rch E l a c
theorem Rch.trans {E:Env} {l:List PN} {a b c:Cf} (h:Rch E l a b) (g:Rch E l b c):Rch E l a c:=by
 induction h with
 | nil=>exact g
 | cons a b c h1 _ ih=>exact .cons _ _ _ h1 (ih g)
theorem Rch.one {E:Env} {l:List PN} {a b:Cf} (h:b∈succs E l a):Rch E l a b:=.cons _ _ _ h (.nil _)
theorem fQ {E:Env} {l:List PN} {n m p:Nat} {x y:PN} (h:l[n]?=some x) (hu:x.up=(m:Int)) (hm:l[m]?=some y):succs E l (.H n p)=if y.kind=4 then (if x.nth.toNat+1 < y.subs.length then [.B (y.subs.getD (x.nth.toNat+1) 0) p] else [.H m p])
    else if y.kind=7 then [.H m p]
    else if y.kind=101∨y.kind=102 then [.D m p]
    else [.H m p]:=by
 have e:x.up.toNat=m:=by omega
 simp only[succs,h]
 rw[if_neg (by omega),e]
 simp only[hm]
def Inv (E:Env) (l:List PN) (G:Nat→Prop):Cf→Prop
 | .B n p=>∃u c,Rep l u n∧RepC l c n∧∀j e,kQ E u p j→outC E c j e→G e
 | .H n p=>∃c,RepC l c n∧∀e,outC E c p e→G e
 | .D n p=>∃u s c x,l[n]?=some x∧(x.kind=101∨x.kind=102)∧x.subs=[s]∧Rep l u s∧RepC l (.loop u c) s∧RepC l c n∧∀j e,StarR (kQ E u) p j→outC E c j e→G e
 | .E p=>G p
theorem dW.at_ {l:List PN}:∀ {us:List UT} {n k:Nat} {ss:List Nat},dW l us n k ss→∀(i s:Nat),ss[i]?=some s→∃u x,us[i]?=some u∧Rep l u s∧l[s]?=some x∧x.up=(n:Int)∧x.nth=((k+i:Nat):Int)∧dW l (us.drop (i+1)) n (k+i+1) (ss.drop (i+1))
 | [],n,k,ss,h,i,s,hi=>by
  rw[h.none] at hi
  simp at hi
 | u::us,n,k,ss,h,i,s,hi=>by
  cases h with
  | cons _ _ _ _ s0 ss x h1 h2 h3 h4 h5 =>
   cases i with
   | zero =>
    simp only[List.getElem?_cons_zero,Option.some.injEq] at hi
    subst hi
    exact⟨u,x,rfl,h1,h2,h3,h4,by simpa using h5⟩
   | succ i =>
    simp only[List.getElem?_cons_succ] at hi
    obtain⟨u',x',e1,e2,e3,e4,e5,e6⟩:=h5.at_ i s hi
    exact⟨u',x',by simpa using e1,e2,e3,e4,by rw[e5];congr 1;omega,by rw[show k+(i+1)+1=k+1+i+1 by omega];simpa using e6⟩
theorem inv_seq {E:Env} {l:List PN} {G:Nat→Prop} {n m k p:Nat} {y:PN} {us:List UT} {c:Ctx} (hm:l[m]?=some y) (h4:y.kind=4) (hc:RepC l c m) {s:Nat} (hs:y.subs[k]?=some s) (hr:dW l us m k (y.subs.drop k))
  (hG:∀e,(∃j,fitC E us p j∧outC E c j e)→G e):Inv E l G (.B s p):=by
 obtain⟨u,x,e1,e2,e3,e4,e5,e6⟩:=hr.at_ 0 s (by rw[List.getElem?_drop];simpa using hs)
 refine⟨u,.seq (us.drop 1) c,e2,.seq s x m y (us.drop 1) (y.subs.drop (k+1)) c k e3 e4 (by rw[e5];simp) hm h4 rfl ?_ hc,fun j e hf ho=>?_⟩
 ·rw[List.drop_drop] at e6
  simpa using e6
 ·simp only[outC] at ho
  obtain⟨q,ho1,ho2⟩:=ho
  refine hG e ⟨q,?_,ho2⟩
  cases us with
  | nil=>simp at e1
  | cons a us =>
   simp at e1
   subst e1
   simp only[fitC]
   exact⟨j,hf,by simpa using ho1⟩
theorem bL {E:Env} {l:List PN} {G:Nat→Prop} {a b:Cf} (ha:Inv E l G a) (hb:b∈succs E l a):Inv E l G b:=by
 cases a with
 | E p=>simp[succs] at hb
 | D n p =>
  obtain⟨u,s,c,x,hx,hk,hs,hr,hcl,hc,hG⟩:=ha
  simp only[succs,hx,List.mem_cons,List.not_mem_nil,or_false] at hb
  rcases hb with rfl | rfl
  ·have e:aR x=s:=by simp[aR,hs]
   rw[e]
   refine⟨u,.loop u c,hr,hcl,fun j e hf ho=>?_⟩
   simp only[outC] at ho
   obtain⟨q,h1,h2⟩:=ho
   exact hG q e (.cons _ _ _ hf h1) h2
  ·exact⟨c,hc,fun e ho=>hG p e (.nil _) ho⟩
 | H n p =>
  obtain⟨c,hc,hG⟩:=ha
  cases hc with
  | top _ x hx hu =>
   simp only[succs,hx] at hb
   rw[if_pos hu] at hb
   simp at hb
   subst hb
   exact hG p (by simp[outC])
  | seq _ x m y us ss c k hx hu hn hm hk hd hr hc =>
   have en:x.nth.toNat=k:=by omega
   rw[fQ hx hu hm,if_pos hk,en] at hb
   split at hb
   ·rename_i hlt
    simp at hb
    subst hb
    refine inv_seq (n:=n) (k:=k+1) hm hk hc (by simp[List.getElem?_eq_getElem hlt]) (by rw[hd];exact hr) (fun e ⟨j,h1,h2⟩=>hG e ⟨j,h1,h2⟩)
   ·rename_i hlt
    simp at hb
    subst hb
    have hss:ss=[]:=by rw[←hd];exact List.drop_eq_nil_of_le (by omega)
    subst hss
    cases hr
    exact⟨c,hc,fun e ho=>hG e ⟨p,by simp[fitC],ho⟩⟩
  | one _ x m y c hx hu hm hk hc =>
   rw[fQ hx hu hm,if_neg (by omega)] at hb
   have hb2:b=.H m p:=by
    split at hb
    ·simpa using hb
    ·rw[if_neg (by omega)] at hb
     simpa using hb
   subst hb2
   exact⟨c,hc,fun e ho=>hG e (by simp only[outC];exact ho)⟩
  | loop _ x m y u c hx hu hm hk hs hr hc =>
   rw[fQ hx hu hm,if_neg (by omega),if_neg (by omega),if_pos hk] at hb
   simp at hb
   subst hb
   refine⟨u,n,c,y,hm,hk,hs,hr,.loop n x m y u c hx hu hm hk hs hr hc,hc,fun j e h1 h2=>hG e ?_⟩
   simp only[outC]
   exact⟨j,h1,h2⟩
 | B n p =>
  obtain⟨u,c,hr,hc,hG⟩:=ha
  cases hr with
  | eps _ x hx hk =>
   simp[succs,hx,hk] at hb
   subst hb
   exact⟨c,hc,fun e ho=>hG p e (by simp[kQ]) ho⟩
  | cls _ x hx hk =>
   simp[succs,hx,hk] at hb
   obtain⟨h1,rfl⟩:=hb
   exact⟨c,hc,fun e ho=>hG (p+1) e (by simp[kQ,h1]) ho⟩
  | asr _ x hx hk =>
   simp[succs,hx,hk] at hb
   obtain⟨h1,rfl⟩:=hb
   exact⟨c,hc,fun e ho=>hG p e (by simp[kQ,h1]) ho⟩
  | cat _ x us hx hk h0 hrs =>
   simp[succs,hx,hk] at hb
   subst hb
   obtain⟨s,r,e⟩:=List.exists_cons_of_ne_nil h0
   have es:aR x=s:=by simp[aR,e]
   rw[es]
   exact inv_seq (n:=n) (k:=0) (us:=us) hx hk hc (by rw[e];rfl) (by simpa using hrs) (fun e ⟨j,h1,h2⟩=>hG j e (by simp only[kQ];exact h1) h2)
  | alt _ x us hx hk hrs =>
   simp[succs,hx,hk] at hb
   obtain⟨s,hs,rfl⟩:=hb
   obtain⟨i,hi⟩:=List.mem_iff_getElem?.1 hs
   obtain⟨u,y,e1,e2,e3,e4,e5,-⟩:=hrs.at_ i s hi
   refine⟨u,.one c,e2,.one s y n x c e3 e4 hx (.inl hk) hc,fun j e hf ho=>hG j e ?_ (by simpa [outC] using ho)⟩
   simp only[kQ]
   exact(fitA_iff E us p j).2 ⟨u,List.mem_of_getElem? e1,hf⟩
  | grp _ x u hx hk hrs =>
   simp[succs,hx,hk] at hb
   subst hb
   obtain⟨s,y,e,h1,h2,h3,h4⟩:=hrs.one
   have es:aR x=s:=by simp[aR,e]
   rw[es]
   exact⟨u,.one c,h1,.one s y n x c h2 h3 hx (.inr (.inl hk)) hc,fun j e hf ho=>hG j e (by simp only[kQ];exact hf) (by simpa [outC] using ho)⟩
  | star _ x u hx hk hrs =>
   simp[succs,hx,hk] at hb
   subst hb
   obtain⟨s,y,e,h1,h2,h3,h4⟩:=hrs.one
   exact⟨u,s,c,x,hx,.inl hk,e,h1,.loop s y n x u c h2 h3 hx (.inl hk) e h1 hc,hc,fun j e hf ho=>hG j e (by simp only[kQ];exact hf) ho⟩
  | plus _ x u hx hk hrs =>
   simp[succs,hx,hk] at hb
   subst hb
   obtain⟨s,y,e,h1,h2,h3,h4⟩:=hrs.one
   have es:aR x=s:=by simp[aR,e]
   rw[es]
   refine⟨u,.loop u c,h1,.loop s y n x u c h2 h3 hx (.inr hk) e h1 hc,fun j e hf ho=>?_⟩
   simp only[outC] at ho
   obtain⟨q,g1,g2⟩:=ho
   exact hG q e (by simp only[kQ];exact⟨j,hf,g1⟩) g2
  | quest _ x u hx hk hrs =>
   simp[succs,hx,hk] at hb
   obtain⟨s,y,e,h1,h2,h3,h4⟩:=hrs.one
   have es:aR x=s:=by simp[aR,e]
   rw[es] at hb
   rcases hb with rfl | rfl
   ·exact⟨u,.one c,h1,.one s y n x c h2 h3 hx (.inr (.inr hk)) hc,fun j e hf ho=>hG j e (by simp only[kQ];exact .inr hf) (by simpa [outC] using ho)⟩
   ·exact⟨c,hc,fun e ho=>hG p e (by simp[kQ]) ho⟩
end Go.Proofs.Ytnkefclbchpafaa
