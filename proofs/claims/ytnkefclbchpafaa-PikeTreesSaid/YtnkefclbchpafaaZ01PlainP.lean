/-
  Laws, PlainP, put together.
-/
import Derived.Test.YtnkefclbchpafaaZ00Unf
import Derived.OwnWalk
import Derived.RegionTactic

/-
  Laws at an operation that the walks of this seat take besides the library's: the builtin clear on a row of the call's own; append of a slice that reads as a list (nil let in).
-/
namespace Go.Proofs.Ytnkefclbchpafaa
open Go.RowKit
set_option linter.unusedVariables false
section
variable {P : Program} {w : World}
theorem run_clear_own (base:Nat) (t ty e:TypeId) (i:TypeInfo) (z:Value) (size:Nat) (ht:P.underlying t=some (.slice e)) (hi:P.info? e=some i) (hz:i.zero=some z)
  (hzs:z.cells.size=size) (h1:∀u∈z.cells.toList,u.oneCell'=true)
  (v:Value) (n:Nat) (xs:List Value) (hown:w.ownsRow base e size v n xs) :
  ∃w',(Builtin.clear_ #[t] ty #[v]).run P w=.ok (.tuple #[]) w'∧w'.ownsRow base e size v n (Builtin.zeroCells z.cells n).toList∧w.grownBy w' v.ownBlock:=by
 have hlen:(Builtin.zeroCells z.cells n).toList.length=n*size:=by simp[size_zeroCells,hzs]
 rcases hown.2 with⟨rfl,rfl⟩ | ⟨g,cap,cur,rfl,hb,hg,hnc,hcm,hcs,ht'⟩
 ·refine⟨w,?_,?_,World.grownBy.refl w _⟩
  ·simp[Builtin.clear_,run_underlying ht]
  ·exact⟨hlen,.inl ⟨rfl,rfl⟩⟩
 ·by_cases hn:n=0
  ·subst hn
   refine⟨w,?_,?_,World.grownBy.refl w _⟩
   ·simp[Builtin.clear_,run_underlying ht]
   ·refine⟨hlen,.inr ⟨g,cap,cur,rfl,hb,hg,hnc,hcm,hcs,?_⟩⟩
    simp[Builtin.zeroCells]
  ·have hone:∀u∈(Builtin.zeroCells z.cells n).toList,u.oneCell'=true:=by
    intro u hu
    simp only[Builtin.zeroCells,Array.toList_map,List.mem_map] at hu
    obtain⟨k,hk,rfl⟩:=hu
    have hk':k < n*z.cells.size:=by simpa using hk
    have hpos:0 < z.cells.size:=by
     rcases Nat.eq_zero_or_pos z.cells.size with h0 | h0
     ·rw[h0] at hk';omega
     ·exact h0
    have hlt:=Nat.mod_lt k hpos
    rw[getElem!_pos z.cells (k % z.cells.size) hlt]
    exact h1 _ (by simp)
   have hst:=run_storeCells_at P g 0 e (Builtin.zeroCells z.cells n).toList 0 cur w hg (by rw[hlen,hcs];simpa using Nat.mul_le_mul_right _ hnc) hone
   have hrun:(Builtin.clear_ #[t] ty #[.slice (some ⟨g,0,none⟩) n cap]).run P w=.ok (.tuple #[]) (w.setRow g (cur.toList.take (0+0)++(Builtin.zeroCells z.cells n).toList++cur.toList.drop (0+0+(Builtin.zeroCells z.cells n).toList.length)).toArray):=by
    simp[Builtin.clear_,run_underlying ht,hn,zeroValue,typeInfo,hi,hz,hst]
   refine⟨_,hrun,⟨hlen,.inr ⟨g,cap,_,rfl,hb,setRow_heap w g cur _ e _ hg,hnc,hcm,?_,?_⟩⟩,⟨rfl,rfl,rfl,by simp,fun k _ hk=>setRow_other w g k _ (fun e=>hk (by simp[Value.ownBlock,e]))⟩⟩
   ·simp only[List.size_toArray,List.length_append,List.length_take,List.length_drop,Array.length_toList,hlen]
    have:n*size≤cur.size:=by rw[hcs];exact Nat.mul_le_mul_right _ hnc
    omega
   ·simp only[Nat.add_zero,List.take_zero,List.nil_append]
    exact List.take_left' hlen
theorem wpList_clear_own {ops:Array Oper} {rest:List Oper} {o:Oper} {a:Act} {Q:Exit→Act→World→Prop} (hgd:o.guard=none) (s:Operand) (t:TypeId)
  (ho:o.op=.call { callee:=.builtin .clear,args:=#[s],argTypes:=#[t] })
  (base:Nat) (e:TypeId) (i:TypeInfo) (z:Value) (size:Nat) (ht:P.underlying t=some (.slice e)) (hi:P.info? e=some i) (hz:i.zero=some z)
  (hzs:z.cells.size=size) (h1:∀u∈z.cells.toList,u.oneCell'=true)
  (v:Value) (n:Nat) (xs:List Value) (hs:a.eval s=v) (hown:w.ownsRow base e size v n xs)
  (h:∀w',w'.ownsRow base e size v n (Builtin.zeroCells z.cells n).toList→w.grownBy w' v.ownBlock→wpList P ops Q rest (a.put o.dst (.tuple #[])) w'):wpList P ops Q (o::rest) a w:=by
 refine wpList_plain hgd fun K hK=>?_
 obtain⟨w',hr,h2,h3⟩:=run_clear_own (P:=P) base t o.type e i z size ht hi hz hzs h1 v n xs hown
 unfold Oper.wp execOp
 simp only[ho,resolve,invoke,builtin,Sem.run_bind,Sem.run_pure,Result.andThen_ok,List.map_toArray,List.map_cons,List.map_nil,hs,hr]
 exact hK _ _ (h w' h2 h3)
theorem run_append_reads (base:Nat) (t ty e:TypeId) (i:TypeInfo) (z:Value) (size bytes:Nat) (ht:P.underlying t=some (.slice e)) (hi:P.info? e=some i) (hz:i.zero=some z)
  (hsize:i.size=size) (hby:i.bytes=bytes) (hzs:z.cells.size=size) (hsz:0 < size)
  (v:Value) (n:Nat) (xs:List Value) (hown:w.ownsRow base e size v n xs)
  (S:Nat→Prop) (A:Option Addr) (m c:Nat) (news:List Value) (hr:Reads w S size A m news) (h1:∀u∈news,u.oneCell'=true)
  (h63:n+m≤maxLen) (hbytes:(n+m)*bytes≤140737488355328) (hbase:base≤w.heap.size) :
  ∃v' w',(Builtin.append_ #[t,t] ty #[v,.slice A m c]).run P w=.ok v' w'∧w'.ownsRow base e size v' (n+m) (xs++news)∧w.grownBy w' v.ownBlock ∧
   (v'.ownBlock=v.ownBlock∨v'.ownBlock=some w.heap.size):=by
 rcases A with _ | ad
 ·have hm:m=0:=by
   rcases Nat.eq_zero_or_pos m with h0 | h0
   ·exact h0
   ·obtain⟨_,h,_⟩:=hr.2 h0
    cases h
  subst hm
  have hn:news=[]:=List.eq_nil_of_length_eq_zero (by simpa using hr.1)
  subst hn
  refine⟨v,w,?_,by simpa using hown,World.grownBy.refl w _,.inl rfl⟩
  rcases hown.2 with⟨rfl,rfl⟩ | ⟨g,cap,cur,rfl,_,_,hnc,_⟩
  ·simp[Builtin.append_,run_underlying ht,sizeOf,typeInfo,hi,Builtin.lenOf,Builtin.firstCells]
  ·simp[Builtin.append_,run_underlying ht,sizeOf,typeInfo,hi,Builtin.lenOf,Builtin.firstCells,hnc,storeCells]
 ·have hcells:∀j u,news[j]?=some u→w.cell? (ad.add j)=some u:=by
   intro j u hu
   rcases Nat.eq_zero_or_pos m with h0 | h0
   ·subst h0
    have hn:news=[]:=List.eq_nil_of_length_eq_zero (by simpa using hr.1)
    subst hn
    simp at hu
   ·obtain⟨_,h,_,_,hc⟩:=hr.2 h0
    injection h with h
    subst h
    exact hc j u hu
  obtain⟨v',w',hrun,h2,h3,_,h5⟩:=run_append_own_at (P:=P) w base t ty e i z size bytes ht hi hz hsize hby hzs hsz v n xs hown ad m c news hr.1 hcells h1 h63 hbytes hbase
  exact⟨v',w',hrun,h2,h3,h5⟩
theorem dS {ops:Array Oper} {rest:List Oper} {o:Oper} {a:Act} {Q:Exit→Act→World→Prop} (hgd:o.guard=none) (s x:Operand) (t:TypeId)
  (ho:o.op=.call { callee:=.builtin .append,args:=#[s,x],argTypes:=#[t,t] })
  (base:Nat) (e:TypeId) (i:TypeInfo) (z:Value) (size bytes:Nat) (ht:P.underlying t=some (.slice e)) (hi:P.info? e=some i) (hz:i.zero=some z)
  (hsize:i.size=size) (hby:i.bytes=bytes) (hzs:z.cells.size=size) (hsz:0 < size)
  (v:Value) (n:Nat) (xs:List Value) (hs:a.eval s=v) (hown:w.ownsRow base e size v n xs)
  (S:Nat→Prop) (A:Option Addr) (m c:Nat) (news:List Value) (hx:a.eval x=.slice A m c) (hr:Reads w S size A m news) (h1:∀u∈news,u.oneCell'=true)
  (h63:n+m≤maxLen) (hbytes:(n+m)*bytes≤140737488355328) (hbase:base≤w.heap.size)
  (h:∀v' w',w'.ownsRow base e size v' (n+m) (xs++news)→w.grownBy w' v.ownBlock→(v'.ownBlock=v.ownBlock∨v'.ownBlock=some w.heap.size)→wpList P ops Q rest (a.put o.dst v') w'):wpList P ops Q (o::rest) a w:=by
 refine wpList_plain hgd fun K hK=>?_
 obtain⟨v',w',hrun,h2,h3,h4⟩:=run_append_reads (P:=P) base t o.type e i z size bytes ht hi hz hsize hby hzs hsz v n xs hown S A m c news hr h1 h63 hbytes hbase
 unfold Oper.wp execOp
 simp only[ho,resolve,invoke,builtin,Sem.run_bind,Sem.run_pure,Result.andThen_ok,List.map_toArray,List.map_cons,List.map_nil,hs,hx,hrun]
 exact hK _ _ (h v' w' h2 h3 h4)
theorem run_copy_reads (base:Nat) (t st ty e:TypeId) (i:TypeInfo) (size:Nat) (ht:P.underlying t=some (.slice e)) (hi:P.info? e=some i) (hsize:i.size=size)
  (g n cap:Nat) (xs:List Value) (hown:w.ownsRow base e size (.slice (some ⟨g,0,none⟩) n cap) n xs)
  (S:Nat→Prop) (A:Option Addr) (m c:Nat) (news:List Value) (hr:Reads w S size A m news) (h1:∀u∈news,u.oneCell'=true) (hmn:m≤n) :
  ∃w',(Builtin.copy_ #[t,st] ty #[.slice (some ⟨g,0,none⟩) n cap,.slice A m c]).run P w=.ok (goInt m) w' ∧
   w'.ownsRow base e size (.slice (some ⟨g,0,none⟩) n cap) n (news++xs.drop (m*size))∧w.grownBy w' (some g):=by
 subst hsize
 have hmin:Nat.min m n=m:=Nat.min_eq_left hmn
 have hle:m*i.size≤n*i.size:=Nat.mul_le_mul_right _ hmn
 rcases hown.2 with⟨h',_⟩ | ⟨g',cap',cur,h',hb,hg,hnc,hcm,hcs,ht'⟩
 ·cases h'
 ·injection h' with e1 _ e3
  injection e1 with e1
  injection e1 with e1
  subst e1;subst e3
  have hncs:n*i.size≤cap*i.size:=Nat.mul_le_mul_right _ hnc
  have hlen:(news++xs.drop (m*i.size)).length=n*i.size:=by
   rw[List.length_append,List.length_drop,hr.1,hown.1];omega
  rcases A with _ | ad
  ·have hm:m=0:=by
    rcases Nat.eq_zero_or_pos m with h0 | h0
    ·exact h0
    ·obtain⟨_,h,_⟩:=hr.2 h0
     cases h
   subst hm
   have hn:news=[]:=List.eq_nil_of_length_eq_zero (by simpa using hr.1)
   subst hn
   refine⟨w,?_,by simpa using hown,World.grownBy.refl w _⟩
   simp[Builtin.copy_,run_underlying ht,sizeOf,typeInfo,hi,Builtin.lenOf,Builtin.firstCells,storeCells]
  ·have hcells:∀j u,news[j]?=some u→w.cell? (ad.add j)=some u:=by
    intro j u hu
    rcases Nat.eq_zero_or_pos m with h0 | h0
    ·subst h0
     have hn:news=[]:=List.eq_nil_of_length_eq_zero (by simpa using hr.1)
     subst hn
     simp at hu
    ·obtain⟨_,h,_,_,hc⟩:=hr.2 h0
     injection h with h
     subst h
     exact hc j u hu
   have hf:=run_firstCells_some (P:=P) w i.size m ad m c news hr.1 hcells
   have hst:=run_storeCells_at P g 0 e news 0 cur w hg (by rw[hr.1,hcs];omega) h1
   have hrun:(Builtin.copy_ #[t,st] ty #[.slice (some ⟨g,0,none⟩) n cap,.slice (some ad) m c]).run P w=.ok (goInt m) (w.setRow g (cur.toList.take (0+0)++news++cur.toList.drop (0+0+news.length)).toArray):=by
    simp[Builtin.copy_,run_underlying ht,sizeOf,typeInfo,hi,Builtin.lenOf,hmin,hf,hst]
   refine⟨_,hrun,⟨hlen,.inr ⟨g,cap,_,rfl,hb,setRow_heap w g cur _ e _ hg,hnc,hcm,?_,?_⟩⟩,⟨rfl,rfl,rfl,by simp,fun k _ hk=>setRow_other w g k _ (fun e=>hk (by simp[e]))⟩⟩
   ·simp only[List.size_toArray,List.length_append,List.length_take,List.length_drop,Array.length_toList,hr.1]
    omega
   ·simp only[Nat.add_zero,List.take_zero,List.nil_append,Nat.zero_add]
    rw[List.take_append,List.take_of_length_le (by rw[hr.1];omega),hr.1,←ht',List.drop_take]
    
theorem wpList_copy_reads {ops:Array Oper} {rest:List Oper} {o:Oper} {a:Act} {Q:Exit→Act→World→Prop} (hgd:o.guard=none) (d s:Operand) (t st:TypeId)
  (ho:o.op=.call { callee:=.builtin .copy,args:=#[d,s],argTypes:=#[t,st] })
  (base:Nat) (e:TypeId) (i:TypeInfo) (size:Nat) (ht:P.underlying t=some (.slice e)) (hi:P.info? e=some i) (hsize:i.size=size)
  (g n cap:Nat) (xs:List Value) (hd:a.eval d=.slice (some ⟨g,0,none⟩) n cap) (hown:w.ownsRow base e size (.slice (some ⟨g,0,none⟩) n cap) n xs)
  (S:Nat→Prop) (A:Option Addr) (m c:Nat) (news:List Value) (hs:a.eval s=.slice A m c) (hr:Reads w S size A m news) (h1:∀u∈news,u.oneCell'=true) (hmn:m≤n)
  (h:∀w',w'.ownsRow base e size (.slice (some ⟨g,0,none⟩) n cap) n (news++xs.drop (m*size))→w.grownBy w' (some g)→wpList P ops Q rest (a.put o.dst (goInt m)) w'):wpList P ops Q (o::rest) a w:=by
 refine wpList_plain hgd fun K hK=>?_
 obtain⟨w',hrun,h2,h3⟩:=run_copy_reads (P:=P) base t st o.type e i size ht hi hsize g n cap xs hown S A m c news hr h1 hmn
 unfold Oper.wp execOp
 simp only[ho,resolve,invoke,builtin,Sem.run_bind,Sem.run_pure,Result.andThen_ok,List.map_toArray,List.map_cons,List.map_nil,hd,hs,hrun]
 exact hK _ _ (h w' h2 h3)
end
end Go.Proofs.Ytnkefclbchpafaa

/-
  Programs in plain words: an instruction, when it may be, when a program may be. No memory.
-/
namespace Go.Proofs.Ytnkefclbchpafaa
set_option linter.unusedVariables false
structure av where
 op:Int
 x:Int
 y:Int
 arg:Int
 rs:List (Int × Int)
def kU (r:Int):Bool:=decide (0≤r∧r≤1114111∧(r < 55296∨57343 < r))
def bP (rs:List (Int × Int)):Nat→Option (Int × Int)
 | 0=>none
 | k+1=>rs[k]?
def gapB (p:Option (Int × Int)) (x:Int × Int):Bool:=match p with | none=>true | some y=>decide (y.2+1 < x.1)
def cO (p:Option (Int × Int)) (x:Int × Int):Bool:=kU x.1 && kU x.2 && decide (x.1≤x.2) && !(decide (x.1 < 55296∧57343 < x.2)) && gapB p x
def rightFrom (p:Option (Int × Int)):List (Int × Int)→Bool
 | []=>true
 | x::r=>cO p x && rightFrom (some x) r
def bq (rs:List (Int × Int)):Bool:=decide (rs.length≤5000) && rightFrom none rs
theorem iE {rs:List (Int × Int)} {k:Nat} {x:Int × Int} (h:rs[k]?=some x):rightFrom (bP rs k) (rs.drop k)=(cO (bP rs k) x && rightFrom (bP rs (k+1)) (rs.drop (k+1))):=by
 have hl:=(List.getElem?_eq_some_iff.1 h).1
 have hd:rs.drop k=x::rs.drop (k+1):=by
  rw[List.drop_eq_getElem_cons hl]
  congr 1
  rw[List.getElem?_eq_getElem hl] at h
  injection h
 rw[hd]
 show(cO (bP rs k) x && rightFrom (some x) (rs.drop (k+1)))=_
 rw[show bP rs (k+1)=some x from h]
def dh (i:Int) (n:Nat):Bool:=decide (0≤i∧i < n)
def jY (a:Int):Bool:=decide (a=1∨a=2∨a=4∨a=8∨a=16∨a=32)
def bC (x:av) (n:Nat) (caps:Int):Bool :=
 if x.op=1 then dh x.x n && decide (x.y=0) && decide (x.arg=0) && decide (0 < x.rs.length) && bq x.rs
 else if x.op=2 then dh x.x n && dh x.y n && decide (x.arg=0) && decide (x.rs.length=0)
 else if x.op=3 then dh x.x n && decide (x.y=0) && decide (0≤x.arg∧x.arg < caps) && decide (x.rs.length=0)
 else if x.op=4 then dh x.x n && decide (x.y=0) && jY x.arg && decide (x.rs.length=0)
 else if x.op=5 then decide (x.x=0) && decide (x.y=0) && decide (0≤x.arg∧x.arg < 100) && decide (x.rs.length=0)
 else if x.op=6 then decide (x.x=0) && decide (x.y=0) && decide (x.arg=0) && decide (x.rs.length=0)
 else if x.op=7 then dh x.x n && decide (x.y=0) && decide (x.arg=0) && decide (x.rs.length=0)
 else false
def fu (is:List av) (start caps:Int):Bool :=
 decide (1≤is.length∧is.length≤20000∧0≤start∧start < is.length∧caps % 2=0∧2≤caps∧caps≤1002) && is.all fun x=>bC x is.length caps
theorem all_drop {is:List av} {k:Nat} {x:av} (f:av→Bool) (h:is[k]?=some x):(is.drop k).all f=(f x && (is.drop (k+1)).all f):=by
 have hl:=(List.getElem?_eq_some_iff.1 h).1
 rw[List.drop_eq_getElem_cons hl]
 rw[List.getElem?_eq_getElem hl] at h
 injection h with h
 rw[h,List.all_cons]
theorem gK {met:List Bool} {pc:Nat} (h:met[pc]?=some false):(met.set pc true).count false+1=met.count false:=by
 have hl:=(List.getElem?_eq_some_iff.1 h)
 obtain⟨hl,hv⟩:=hl
 have hpos:0 < met.count false:=List.count_pos_iff.2 (hv ▸ List.getElem_mem hl)
 rw[List.count_set hl]
 simp[hv]
 omega
end Go.Proofs.Ytnkefclbchpafaa
