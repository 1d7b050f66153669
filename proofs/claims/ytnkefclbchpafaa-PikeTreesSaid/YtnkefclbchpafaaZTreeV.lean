/-
  TreeV, put together.
-/
import Derived.Test.YtnkefclbchpafaaZ42AskW
import Derived.Test.YtnkefclbchpafaaZ02TreeP
import Derived.ChangeArms

/-
  From the row's reading of an argument to memory: a tree.
-/
namespace Go.Proofs.Ytnkefclbchpafaa
open Go.ChangeShapes Go.WideShapes Go.ChangeAt Go.RowKit Go.Deep
set_option linter.unusedVariables false
instance:Inhabited Tree:=⟨.mk 0 [] 0 [] 0 0 false 0 ByteArray.empty⟩
theorem pairv_get {zs:Nat→Int × Int} {n:Nat}:∀(j:Nat) u,(iF ((List.range n).map zs))[j]?=some u→∃i,i < n∧((j=i*2+0∧u=.int .i64 (zs i).1)∨(j=i*2+1∧u=.int .i64 (zs i).2)):=by
 intro j u hu
 have hlt:=(List.getElem?_eq_some_iff.1 hu).1
 rw[pairv_len] at hlt
 simp only[List.length_map,List.length_range] at hlt
 have hi:j / 2 < n:=by omega
 have hz:((List.range n).map zs)[j / 2]?=some (zs (j / 2)):=by simp[hi]
 obtain⟨h0,h1⟩:=pairv_at _ _ _ hz
 refine⟨j / 2,hi,?_⟩
 rcases(by omega:j=2*(j / 2)∨j=2*(j / 2)+1) with h | h
 ·rw[←h,hu] at h0;injection h0 with h0;exact .inl ⟨by omega,h0⟩
 ·rw[←h,hu] at h1;injection h1 with h1;exact .inr ⟨by omega,h1⟩
section
variable {H : Type} {enc : TypeId × Value → H} {P : Program} {W : World}
theorem view_ranges {t e:TypeId} {f0 f1:Field} {A:Option Addr} {n c:Nat} {d:DataW H} {p:List MemPlace} (ht:P.underlying t=some (.slice e)) (he:P.underlying e=some (.struct #[f0,f1])) (hone:oneCellFields P #[f0,f1]=true) (hC:P.cellsOf e=2)
  (k0:P.underlying f0.type=some (.int .i64)) (k1:P.underlying f1.type=some (.int .i64)) (kb:P.bytesOf e=16)
  (h:DataW.Trod enc P W 0 (fun _=>true) true t (.slice A n c) d p) (hL:Light P t d) :
  ∃rs,bO W (· < W.heap.size) A n rs∧rs.length*16≤140737488351232:=by
 rcases open_structs ht he hone hC h with⟨rfl,rfl,rfl,rfl⟩ | ⟨a,es,sp,rfl,hnc,rfl,hlen,hi⟩
 ·exact⟨[],⟨Reads.nil_,fun x hx=>(by cases hx),by omega⟩,by simp⟩
 have hlb:=light_len ht hL
 rw[kb] at hlb
 simp only[reachBytes] at hlb
 have hfld:∀i,i < n→∃z:Int × Int,W.cell? (a.add (i*2+0))=some (.int .i64 z.1)∧W.cell? (a.add (i*2+1))=some (.int .i64 z.2)∧In64 z.1∧In64 z.2:=by
  intro i hin
  obtain⟨parts,hmem,hff⟩:=hi i hin
  obtain⟨v0,y0,q0,c0,hy0,m0,t0⟩:=hff 0 f0 rfl
  obtain⟨v1,y1,q1,c1,hy1,m1,t1⟩:=hff 1 f1 rfl
  obtain⟨x0,rfl,hx0⟩:=eH k0 t0
  obtain⟨x1,rfl,hx1⟩:=eH k1 t1
  exact⟨(x0,x1),c0,c1,hx0,hx1⟩
 obtain⟨V,hV⟩:=choose_lt (α:=Int × Int) (n:=n) (p:=fun i z=>W.cell? (a.add (i*2+0))=some (.int .i64 z.1)∧W.cell? (a.add (i*2+1))=some (.int .i64 z.2)∧In64 z.1∧In64 z.2) hfld
 refine⟨(List.range n).map V,⟨⟨by rw[pairv_len];simp,fun hn=>?_⟩,fun x hx=>?_,by omega⟩,by simp;omega⟩
 ·have h0:=(hV 0 hn).1
  have hb:=World.block_lt_of_cell? W _ h0
  rw[add_block] at hb
  refine⟨a,rfl,hb,hb,fun j u hu=>?_⟩
  obtain⟨i,hin,hj⟩:=pairv_get j u hu
  rcases hj with⟨rfl,rfl⟩ | ⟨rfl,rfl⟩
  ·exact(hV i hin).1
  ·exact(hV i hin).2.1
 ·simp only[List.mem_map,List.mem_range] at hx
  obtain⟨i,hin,rfl⟩:=hx
  exact(hV i hin).2.2
theorem trod_string_one {t:TypeId} {b m:Nat} {sp:Nat→Bool} {held:Bool} {v:Value} {x:DataW H × List MemPlace} (ht:P.underlying t=some .string) (h:DataW.trod enc P W b sp held m t [v]=some x):∃s:ByteArray,v=.string s∧x.1=.lit (.string s.data.toList):=by
 obtain⟨s,e,hx,_⟩:=DataW.trod_string ht h
 injection e with e
 exact⟨s,e,by rw[hx]⟩
theorem open_elems {t e:TypeId} {A:Option Addr} {n c:Nat} {d:DataW H} {m:Nat} {q:List MemPlace} (ht:P.underlying t=some (.slice e)) (h:DataW.trod enc P W 0 (fun _=>true) true m t [.slice A n c]=some (d,q)) :
  (A=none∧n=0∧c=0∧d=.nil)∨∃(a:Addr) (es sp:List (DataW H)),A=some a∧n≤c∧d=.slice es sp∧es.length+sp.length=c ∧
   ∀i,i < n→∃cs' y q m,(∀j (hj:j < P.cellsOf e),W.cell? (a.add (i*P.cellsOf e+j))=cs'[j]?)∧cs'.length=P.cellsOf e∧y∈es∧DataW.trod enc P W 0 (fun _=>true) true m e cs'=some (y,q):=by
 rcases open_slice ht h with⟨hcs,hx⟩ | ⟨a,len,cap,m,nn,D,Pl,hcs,hb,hl,hm,hmm,hx,hi⟩
 ·simp only[List.cons.injEq,and_true,Value.slice.injEq] at hcs
  obtain⟨rfl,rfl,rfl⟩:=hcs
  injection hx with hx _
  exact .inl ⟨rfl,rfl,rfl,hx⟩
 ·simp only[List.cons.injEq,and_true,Value.slice.injEq] at hcs
  obtain⟨rfl,rfl,rfl⟩:=hcs
  injection hx with hx _
  subst hx
  simp only[if_true] at hmm
  subst hmm
  refine .inr ⟨a,_,_,rfl,hl,rfl,by simp;omega,fun i hin=>?_⟩
  obtain⟨cs',hc,ht'⟩:=hi i (by omega)
  obtain⟨_,hlen,hat⟩:=World.cells?_some hc
  exact⟨cs',_,_,_,fun j hj=>by rw[←add_add_,hat j hj],hlen,List.mem_map.2 ⟨i,List.mem_range.2 hin,rfl⟩,ht'⟩
theorem list9 {cs:List Value} {v0 v1 v2 v3 v4 v5 v6 v7 v8:Value} (hl:cs.length=9) (c0:cs[0]?=some v0) (c1:cs[1]?=some v1) (c2:cs[2]?=some v2) (c3:cs[3]?=some v3) (c4:cs[4]?=some v4) (c5:cs[5]?=some v5) (c6:cs[6]?=some v6) (c7:cs[7]?=some v7) (c8:cs[8]?=some v8):cs=[v0,v1,v2,v3,v4,v5,v6,v7,v8]:=by
 refine List.ext_getElem? fun j=>?_
 match j with
 | 0=>exact c0
 | 1=>exact c1
 | 2=>exact c2
 | 3=>exact c3
 | 4=>exact c4
 | 5=>exact c5
 | 6=>exact c6
 | 7=>exact c7
 | 8=>exact c8
 | j+9=>rw[List.getElem?_eq_none (by omega),List.getElem?_eq_none (by simp)]
theorem view_node_go {t er:TypeId} {f0 f1 f2 f3 f4 f5 f6 f7 f8 g0 g1:Field} (ht:P.underlying t=some (.struct #[f0,f1,f2,f3,f4,f5,f6,f7,f8])) (hone:oneCellFields P #[f0,f1,f2,f3,f4,f5,f6,f7,f8]=true) (hC:P.cellsOf t=9)
  (k0:P.underlying f0.type=some (.int .i64)) (k1:P.underlying f1.type=some (.slice er)) (k2:P.underlying f2.type=some (.int .i64)) (k3:P.underlying f3.type=some (.slice t)) (k4:P.underlying f4.type=some (.int .i64)) (k5:P.underlying f5.type=some (.int .i64))
  (k6:P.underlying f6.type=some .bool) (k7:P.underlying f7.type=some (.int .i64)) (k8:P.underlying f8.type=some .string) (kb:P.bytesOf t=112)
  (hr:P.underlying er=some (.struct #[g0,g1])) (rone:oneCellFields P #[g0,g1]=true) (rC:P.cellsOf er=2) (r0:P.underlying g0.type=some (.int .i64)) (r1:P.underlying g1.type=some (.int .i64)) (rb:P.bytesOf er=16) :
  ∀(N:Nat) (d:DataW H) (cs:List Value) (m:Nat) (q:List MemPlace),SizeOf.sizeOf d≤N→DataW.trod enc P W 0 (fun _=>true) true m t cs=some (d,q)→Light P t d→∃T,aB W (fun k=>k < W.heap.size) cs.toArray T
 | 0,d,cs,m,q,hN,h,_=>by
  obtain⟨m',parts,hl,hd,_⟩:=kJ ht hone hC h
  have hd':d=.agg (parts.map (·.1)):=hd
  subst hd'
  simp at hN
 | N+1,d,cs,m,q,hN,h,hL=>by
  obtain⟨m',parts,hl,hd,hff⟩:=kJ ht hone hC h
  have hd':d=.agg (parts.map (·.1)):=hd
  subst hd'
  obtain⟨v0,y0,c0,hy0,t0⟩:=hff 0 f0 rfl
  obtain⟨v1,y1,c1,hy1,t1⟩:=hff 1 f1 rfl
  obtain⟨v2,y2,c2,hy2,t2⟩:=hff 2 f2 rfl
  obtain⟨v3,y3,c3,hy3,t3⟩:=hff 3 f3 rfl
  obtain⟨v4,y4,c4,hy4,t4⟩:=hff 4 f4 rfl
  obtain⟨v5,y5,c5,hy5,t5⟩:=hff 5 f5 rfl
  obtain⟨v6,y6,c6,hy6,t6⟩:=hff 6 f6 rfl
  obtain⟨v7,y7,c7,hy7,t7⟩:=hff 7 f7 rfl
  obtain⟨v8,y8,c8,hy8,t8⟩:=hff 8 f8 rfl
  obtain⟨x0,rfl,hx0⟩:=eH k0 t0
  obtain⟨x2,rfl,hx2⟩:=eH k2 t2
  obtain⟨x4,rfl,hx4⟩:=eH k4 t4
  obtain⟨x5,rfl,hx5⟩:=eH k5 t5
  obtain⟨x6,rfl⟩:=trod_bool_one k6 t6
  obtain⟨x7,rfl,hx7⟩:=eH k7 t7
  obtain⟨x8,rfl,hd8⟩:=trod_string_one k8 t8
  obtain⟨RA,rn,rc,rfl⟩:=jQ k1 t1
  obtain⟨SA,sn,sc,rfl⟩:=jQ k3 t3
  have hl1:=light_part ht hL (j:=1) (f:=f1) (y:=y1.1) rfl (by simp[hy1])
  have hl3:=light_part ht hL (j:=3) (f:=f3) (y:=y3.1) rfl (by simp[hy3])
  have hl8:=light_part ht hL (j:=8) (f:=f8) (y:=y8.1) rfl (by simp[hy8])
  obtain⟨rs,hR,-⟩:=view_ranges k1 hr rone rC r0 r1 rb (trod_of_one (y:=y1.1) (q:=y1.2) rfl t1) hl1
  obtain rfl:rs.length=rn:=hR.len
  have hs8:x8.size≤140737488355328:=by
   rw[hd8] at hl8
   have:=hl8 x8.data.toList.length (by simp[DataW.weights])
   simp only[reachBytes,Array.length_toList] at this
   have h9:x8.size=x8.data.size:=rfl
   omega
  have h3m:y3.1∈parts.map (·.1):=List.mem_map.2 ⟨y3,List.mem_of_getElem? hy3,rfl⟩
  have hsz3:=List.sizeOf_lt_of_mem h3m
  have key:∃subs:List Tree,subs.length=sn∧sn≤140737488355328∧∀i x,subs[i]?=some x→∃ad g o cs',SA=some ad∧ad.add (i*9)=⟨g,o,none⟩∧g < W.heap.size∧g < W.heap.size∧(∀j v,cs'[j]?=some v→W.cell? ⟨g,o+j,none⟩=some v)∧aB W (fun k=>k < W.heap.size) cs' x:=by
   rcases open_elems (d:=y3.1) (q:=y3.2) k3 t3 with⟨rfl,rfl,rfl,hd3⟩ | ⟨a,es,sp,rfl,hnc,hd3,hlen,hi⟩
   ·exact⟨[],rfl,by omega,fun i x hx=>by simp at hx⟩
   rw[hd3] at hl3 hsz3
   have hlb:=light_len k3 hl3
   rw[kb] at hlb
   simp only[reachBytes] at hlb
   obtain⟨V,hV⟩:=choose_lt (α:=Tree) (n:=sn) (p:=fun i x=>∃g o cs',a.add (i*9)=⟨g,o,none⟩∧g < W.heap.size∧(∀(j:Nat) v,cs'[j]?=some v→W.cell? ⟨g,o+j,none⟩=some v)∧aB W (fun k=>k < W.heap.size) cs' x) (fun i hin=>by
    obtain⟨cs',y,q',m2,hcell,hcl,hmem,hty⟩:=hi i hin
    rw[hC] at hcell hcl
    have hsy:=List.sizeOf_lt_of_mem hmem
    obtain⟨T,hT⟩:=view_node_go ht hone hC k0 k1 k2 k3 k4 k5 k6 k7 k8 kb hr rone rC r0 r1 rb N y cs' m2 q' (by
     simp only[DataW.agg.sizeOf_spec,DataW.slice.sizeOf_spec] at hN hsz3
     omega) hty (light_elem k3 hl3 hmem)
    have h0:=hcell 0 (by omega)
    rw[Nat.add_zero,List.getElem?_eq_getElem (by omega)] at h0
    obtain⟨g,o,hadd⟩:=spot_form h0
    have hg:g < W.heap.size:=by
     have:=World.block_lt_of_cell? W _ h0
     rw[hadd] at this
     exact this
    refine⟨T,g,o,cs'.toArray,hadd,hg,fun j v hv=>?_,hT⟩
    have hj:j < 9:=by
     have:=(Array.getElem?_eq_some_iff.1 hv).1
     simp at this
     omega
    have h1:=hcell j hj
    rw[←add_add_,hadd,bX] at h1
    rw[h1]
    simpa using hv)
   refine⟨(List.range sn).map V,by simp,by omega,fun i x hx=>?_⟩
   have hin:i < sn:=by have:=(List.getElem?_eq_some_iff.1 hx).1;simpa using this
   have hxe:V i=x:=by simpa [hin] using hx
   subst hxe
   obtain⟨g,o,cs',q1,q2,q3,q4⟩:=hV i hin
   exact⟨a,g,o,cs',rfl,q1,q2,q2,q3,q4⟩
  obtain⟨subs,rfl,hsn,hsub⟩:=key
  have hcs:=list9 hl c0 c1 c2 c3 c4 c5 c6 c7 c8
  subst hcs
  exact⟨.mk x0 rs x2 subs x4 x5 x6 x7 x8,aB.of (t:=.mk x0 rs x2 subs x4 x5 x6 x7 x8) (RA:=RA) (rc:=rc) (SA:=SA) (sc:=sc) hR ⟨hx0,hx2,hx4,hx5,hx7,hsn,hs8⟩ hsub⟩
theorem view_node {t er:TypeId} {f0 f1 f2 f3 f4 f5 f6 f7 f8 g0 g1:Field} (ht:P.underlying t=some (.struct #[f0,f1,f2,f3,f4,f5,f6,f7,f8])) (hone:oneCellFields P #[f0,f1,f2,f3,f4,f5,f6,f7,f8]=true) (hC:P.cellsOf t=9)
  (k0:P.underlying f0.type=some (.int .i64)) (k1:P.underlying f1.type=some (.slice er)) (k2:P.underlying f2.type=some (.int .i64)) (k3:P.underlying f3.type=some (.slice t)) (k4:P.underlying f4.type=some (.int .i64)) (k5:P.underlying f5.type=some (.int .i64))
  (k6:P.underlying f6.type=some .bool) (k7:P.underlying f7.type=some (.int .i64)) (k8:P.underlying f8.type=some .string) (kb:P.bytesOf t=112)
  (hr:P.underlying er=some (.struct #[g0,g1])) (rone:oneCellFields P #[g0,g1]=true) (rC:P.cellsOf er=2) (r0:P.underlying g0.type=some (.int .i64)) (r1:P.underlying g1.type=some (.int .i64)) (rb:P.bytesOf er=16) {cs:Array Value} {d:DataW H} {p:List MemPlace}
  (h:DataW.Trod enc P W 0 (fun _=>true) true t (.agg cs) d p) (hL:Light P t d):∃T,aB W (fun k=>k < W.heap.size) cs T:=by
 obtain⟨fuel,hf⟩:=h
 have hc:(Value.agg cs).cells=cs:=rfl
 rw[hc] at hf
 obtain⟨T,hT⟩:=view_node_go ht hone hC k0 k1 k2 k3 k4 k5 k6 k7 k8 kb hr rone rC r0 r1 rb _ d cs.toList fuel p (Nat.le_refl _) hf hL
 exact⟨T,by simpa using hT⟩
end
end Go.Proofs.Ytnkefclbchpafaa
