/-
  OptO, Greatest, Loop7, put together.
-/
import Derived.Test.YtnkefclbchpafaaZ15RowO
import Derived.Deep.QuietTactic
import Derived.Test.YtnkefclbchpafaaZ14Held

/-
  The walk of heronref06's Tree.opt.
-/
namespace Go.Proofs.Ytnkefclbchpafaa
set_option maxRecDepth 100000
set_option maxHeartbeats 16000000
open Go.RowKit
set_option linter.unusedVariables false
theorem iw:(Try.prog.info? 3).map (fun i=>(i.zero,i.size,i.bytes))=some (some (.int .i64 0),1,8):=by kernel_rfl
theorem setUps_len (n:Nat):∀(ss:List Nat) (k:Nat) (l:List PN),(dU l n k ss).length=l.length
 | [],_,_=>rfl
 | s::ss,k,l=>by rw[show dU l n k (s::ss)=dU (fK l s n k) n (k+1) ss from rfl,setUps_len n ss];simp[fK]
theorem dJ (x:PN) (l:List PN):(dA x l).1.length=l.length+1∧(dA x l).2=l.length:=by
 refine⟨?_,rfl⟩
 show(dU _ _ _ _).length=_
 rw[setUps_len]
 simp
theorem kW (ss:List Nat) (l:List PN):l.length≤(iK ss l).1.length∧((∀s∈ss,s < l.length)→(iK ss l).2 < (iK ss l).1.length):=by
 match ss with
 | [] =>
  have:=dJ (aX 1 [] false) l
  show l.length≤(dA (aX 1 [] false) l).1.length∧(_→(dA (aX 1 [] false) l).2 < (dA (aX 1 [] false) l).1.length)
  omega
 | [a]=>exact⟨Nat.le_refl _,fun h=>h a (by simp)⟩
 | a::b::r =>
  have:=dJ (aX 4 (a::b::r) false) l
  show l.length≤(dA (aX 4 (a::b::r) false) l).1.length∧(_→(dA (aX 4 (a::b::r) false) l).2 < (dA (aX 4 (a::b::r) false) l).1.length)
  omega
theorem fJ.len {f:Uf} {u:UT} (h:fJ f u) (l:List PN):l.length≤(f l).1.length∧(f l).2 < (f l).1.length:=by
 obtain⟨x,hx,-⟩:=(h l).root
 exact⟨(h l).pre.len,(List.getElem?_eq_some_iff.1 hx).1⟩
theorem aI {w:World} {g:Nat} {t:TypeId} {v0 v1 v2 v3 v4 v5 v6 v7 v8:Value} (h:Cells w g t #[v0,v1,v2,v3,v4,v5,v6,v7,v8]) :
  w.cell? ⟨g,0,none⟩=some v0∧w.cell? ⟨g,1,none⟩=some v1∧w.cell? ⟨g,2,none⟩=some v2∧w.cell? ⟨g,3,none⟩=some v3∧w.cell? ⟨g,4,none⟩=some v4∧w.cell? ⟨g,5,none⟩=some v5∧w.cell? ⟨g,6,none⟩=some v6∧w.cell? ⟨g,7,none⟩=some v7∧w.cell? ⟨g,8,none⟩=some v8 :=
 ⟨h.ak rfl,h.ak rfl,h.ak rfl,h.ak rfl,h.ak rfl,h.ak rfl,h.ak rfl,h.ak rfl,h.ak rfl⟩
def UnfC (base tb:Nat) (S:Nat→Prop) (t:Tree) (f:Uf):Prop:=∀(D:Nat→Prop) (w:World) (l:List PN) (TA:Option Addr) (tc:Nat) (cs:Array Value),dZ w base tb S D l TA tc→aB w S cs t→(f l).1.length≤90000→Calls Try.prog 44 #[.pointer (some ⟨tb,0,none⟩),.agg cs] w (TAns base tb S D w TA (f l))
theorem one_own {w:World} {base:Nat} (a:Nat) (hb:base≤w.heap.size):(w.alloc (.cells #[.int .i64 (a:Int)] 3)).ownsRow base 3 1 (.slice (some ⟨w.heap.size,0,none⟩) 1 1) 1 (bn ([a].map fun(s:Nat)=>(s:Int))) :=
 kS (lit_own (w:=w) #[.int .i64 (a:Int)] 3 (by unfold maxLen;simp)) (fun g hg=>by simp[Value.ownBlock] at hg;omega)
theorem dZ.eO {w:World} {base tb:Nat} {S D:Nat→Prop} {l:List PN} {TA:Option Addr} {tc:Nat} (h:dZ w base tb S D l TA tc):base≤w.heap.size:=by
 have:=h.size
 have:=h.lo
 omega
theorem opt_any {base tb:Nat} {S:Nat→Prop} {t:Tree} {f:Uf} {u:UT} (hF:UnfC base tb S t f) (hg:fJ f u) (lz:Bool):∀(k:Nat),0 < k→k≤1000→∀(D:Nat→Prop) (w:World) (l:List PN) (TA:Option Addr) (tc:Nat) (cs:Array Value),dZ w base tb S D l TA tc→aB w S cs t→(fZ f lz k l).1.length≤90000 →
  Calls Try.prog 86 #[.pointer (some ⟨tb,0,none⟩),.agg cs,.int .i64 (k:Int),.bool lz] w (TAns base tb S D w TA (fZ f lz k l))
 | 0,h,_=>by omega
 | 1,_,_=>by
  intro D w l TA tc cs hT hN hlen
  obtain⟨RA,rc,SA,sc,rfl,-⟩:=hN.top
  have hA:Upd Nob w (w.alloc (.cells (au t RA rc SA sc) 47)):=(Upd.refl Nob w).alloc _
  have C0:=Cells.new w 47 (au t RA rc SA sc)
  have e1:fZ f lz 1 l=dA (aX 103 [(f l).2] lz) (f l).1:=rfl
  have hfl:=hg.len l
  have hpl:=dJ (aX 103 [(f l).2] lz) (f l).1
  rw[e1] at hlen ⊢
  have HF:=ah (hF D _ l TA tc _ (hT.upd hA) (hN.bA hA (fun _ _=>aj)) (by omega))
  have HA0:=ah (TNx.aM hT hA)
  have HT:=ah hT
  have htb:=hT.size
  unfold au at C0 HF HA0 hA ⊢
  clear hT hN hA
  go_enter Try.func86,Try.ntmps86
  go_upto_region 1 with fail
  generalize w.alloc (.cells #[.int .i64 t.kind,.slice RA t.rs.length rc,.int .i64 t.am,.slice SA t.subs.length sc,.int .i64 t.mn,.int .i64 t.mx,.bool t.lz,.int .i64 t.ix,.string t.nm] 47)=wa at *
  obtain⟨e0,e1,e2,e3,e4,e5,e6,e7,e8⟩:=aI C0
  go_upto_region 2 with(go_at_call 44;refine HF.out.mono ?_;rintro e w1 ⟨rfl,T1,c1,hX1⟩)
  have hb1:=hX1.tab.eO
  have hA1:Upd Nob w1 (w1.alloc (.cells #[.int .i64 ((f l).2:Int)] 3)):=(Upd.refl Nob w1).alloc _
  have HX2:=ah ((HA0.out.trans hX1 htb).trans (TNx.aM hX1.tab hA1) htb)
  have HO2:=ah (one_own (f l).2 hb1)
  have HR:=ah (row_any (A:=some ⟨w1.heap.size,0,none⟩) (c:=1) (ss:=[(f l).2]) HX2.out.tab HO2.out (fun b hb hd=>by have:=hX1.tab.d b hd;simp[Value.ownBlock] at hb;omega) (by simp;exact hfl.2) (by omega) (by simp))
  generalize w1.alloc (.cells #[.int .i64 ((f l).2:Int)] 3)=w2 at *
  clear e0 e1 e2 e3 e4 e5 e6 e7 e8 hX1 hA1 HF C0
  have HPU:=ah (fun(w3:World) (T3:Option Addr) (c3:Nat) (hX3:TNx base tb S D w2 T1 (f l).1 w3 T3 c3)=>jT (x:=aX 103 [(f l).2] lz) (q:=((none,0),(some ⟨w3.heap.size,0,none⟩,1))) (hX3.tab.upd ((Upd.refl Nob w3).alloc (.cells #[.int .i64 ((f l).2:Int)] 3))) (jI (one_own (f l).2 hX3.tab.eO)) (fun b hb hd=>by have:=hX3.tab.d b hd;simp[Value.ownBlock] at hb;omega) (by simp[aX];exact hfl.2) (by omega) (by simp[aX]))
  go_wp2_with (first | (go_at_call 87;refine HR.out.mono ?_;rintro e w3 ⟨rfl,T3,c3,hX3⟩;have HX3:=ah hX3;clear hX3) | (go_at_call 64;refine(HPU.out w3 T3 c3 HX3.out).mono ?_;rintro e w5 ⟨rfl,T5,c5,hX5⟩))
  go_ret
  exact⟨rfl,T5,c5,((HX2.out.trans HX3.out htb).trans (TNx.aM HX3.out.tab ((Upd.refl Nob w3).alloc _)) htb).trans hX5 htb⟩
 | k+2,_,hk=>by
  intro D w l TA tc cs hT hN hlen
  have ih:=opt_any hF hg lz (k+1) (by omega) (by omega)
  obtain⟨RA,rc,SA,sc,rfl,-⟩:=hN.top
  have hA:Upd Nob w (w.alloc (.cells (au t RA rc SA sc) 47)):=(Upd.refl Nob w).alloc _
  have C0:=Cells.new w 47 (au t RA rc SA sc)
  obtain⟨r,hr⟩:∃r,fZ f lz (k+1) (f l).1=r:=⟨_,rfl⟩
  obtain⟨q,hq⟩:∃q,iK [(f l).2,r.2] r.1=q:=⟨_,rfl⟩
  have e1:fZ f lz (k+2) l=dA (aX 103 [q.2] lz) q.1:=by rw[←hq,←hr];rfl
  have hfl:=hg.len l
  have hgl:=(jl lz hg (k+1) (by omega)).len (f l).1
  rw[hr] at hgl
  have hql:=kW [(f l).2,r.2] r.1
  rw[hq] at hql
  have hsub:∀s∈[(f l).2,r.2],s < r.1.length:=by
   intro s hs
   simp at hs
   rcases hs with rfl | rfl
   ·omega
   ·exact hgl.2
  have hq2:=hql.2 hsub
  have hpl:=dJ (aX 103 [q.2] lz) q.1
  rw[e1] at hlen ⊢
  have HF:=ah (hF D _ l TA tc _ (hT.upd hA) (hN.bA hA (fun _ _=>aj)) (by omega))
  have HA0:=ah (TNx.aM hT hA)
  have HT:=ah hT
  have HN:=ah (hN.bA hA (fun _ _=>aj))
  have htb:=hT.size
  have hno:¬TabF tb TA w.heap.size:=fun h=>by
   rcases h with h | h
   ·omega
   ·have:=(hT.gQ _ h).2;omega
  have HNO:=ah hno
  have HIH:=ah ih
  have HQ:=ah hq
  have HR0:=ah hr
  have HSB:=ah hsub
  obtain⟨i0,hi0,hz0,hz1,hz2⟩:=info_parts iw
  have hkw:IntKind.i64.wrap (((k+2:Nat):Int) - 1)=((k+1:Nat):Int):=by rw[IntKind.wrap_i64];omega
  have hk1:(1:Int) < ((k+2:Nat):Int):=by omega
  generalize hK2:k+2=k2 at *
  generalize hK1:k+1=k1 at *
  unfold au at C0 HF HA0 hA HN ⊢
  clear hT hA hno hN ih hq hr hsub
  have HTA:=ah (show dZ (w.alloc (.cells #[.int .i64 t.kind,.slice RA t.rs.length rc,.int .i64 t.am,.slice SA t.subs.length sc,.int .i64 t.mn,.int .i64 t.mx,.bool t.lz,.int .i64 t.ix,.string t.nm] 47)) base tb S D l TA tc from HA0.out.tab)
  go_enter Try.func86,Try.ntmps86
  go_upto_region 1 with fail
  generalize w.alloc (.cells #[.int .i64 t.kind,.slice RA t.rs.length rc,.int .i64 t.am,.slice SA t.subs.length sc,.int .i64 t.mn,.int .i64 t.mx,.bool t.lz,.int .i64 t.ix,.string t.nm] 47)=wa at *
  have HC0:=ah C0
  obtain⟨e0,e1,e2,e3,e4,e5,e6,e7,e8⟩:=aI C0
  go_upto_region 2 with(go_at_call 44;refine HF.out.mono ?_;rintro e w1 ⟨rfl,T1,c1,hX1⟩)
  have hb1:=hX1.tab.eO
  have hA1:Upd Nob w1 (w1.alloc (.cells #[.int .i64 ((f l).2:Int)] 3)):=(Upd.refl Nob w1).alloc _
  have hTD:=hX1.tab.fresh (D':=fun b=>D b∨b=w1.heap.size) hA1 (fun b hb=>by
   have hz:(w1.alloc (.cells #[.int .i64 ((f l).2:Int)] 3)).heap.size=w1.heap.size+1:=World.size_alloc _ _
   rcases hb with hb | hb
   ·have:=hX1.tab.d b hb
    exact⟨.inl hb,by omega⟩
   ·exact⟨.inr (by omega),by omega⟩)
  have HXa:=ah (hX1.trans (⟨hTD,hA1.mono (fun _ _ h=>absurd h aj),.inl rfl⟩:TNx base tb S (fun b=>D b∨b=w1.heap.size) w1 T1 (f l).1 _ T1 c1) HTA.out.size)
  have HD1:=ah hX1.tab.d
  have HO2:=ah (one_own (f l).2 hb1)
  have hsa:wa.heap.size≤w1.heap.size:=hX1.upd.size
  generalize w1.alloc (.cells #[.int .i64 ((f l).2:Int)] 3)=w2 at *
  generalize hg1:w1.heap.size=g1 at *
  clear e0 e1 e2 e3 e4 e5 e6 e7 e8 hX1 hA1 HF C0 hg1 hTD
  obtain⟨e0,e1,e2,e3,e4,e5,e6,e7,e8⟩:=aI (HC0.out.upd HXa.out.upd HNO.out)
  have HI2:=ah (HIH.out (fun b=>D b∨b=g1) w2 (f l).1 T1 c1 _ HXa.out.tab (HN.out.bA HXa.out.upd HTA.out.notF) (by rw[HR0.out];omega))
  go_upto_region 4 with(first | (go_at_call 86;refine HI2.out.mono ?_;rw[HR0.out];rintro e w3 ⟨rfl,T3,c3,hX3⟩;have HX3:=ah hX3;have HO3:=ah (hX3.own HXa.out.tab HO2.out);have hb3:=hX3.tab.eO;clear hX3) | (at_builtin;refine wpList_append_own_at _ rfl _ _ 28 rfl base 3 i0 (.int .i64 0) 1 8 Try.underlying28 hi0 hz0 hz1 hz2 rfl (by decide) (.slice (some ⟨g1,0,none⟩) 1 1) 1 (bn ([(f l).2].map fun(s:Nat)=>(s:Int))) rfl (HO3.out.alloc _) ⟨w3.heap.size,0,none⟩ 1 1 [(.int .i64 (r.2:Int))] rfl rfl ?d1 ?d2 ?d3 ?d4 ?d5 ?_))
  case d1=>exact World.news_of_block (cs:=#[(.int .i64 (r.2:Int))]) (t:=3) (fr:=(0,0)) (heap_alloc_new _ _)
  case d2=>first | rfl | exact⟨rfl⟩ | trivial | (intro u hu;simp at hu;subst hu;rfl) | simp
  case d3=>unfold maxLen;omega
  case d4=>omega
  case d5=>simp;omega
  intro v4 w4 o4 g4 hb4 hat
  obtain⟨A4,c4,rfl⟩:=dG o4
  have hU4:Upd (fun b=>b=g1) w3 w4:=((Upd.refl (fun b=>b=g1) w3).alloc _).grown g4 (fun b hb _=>by simp[Value.ownBlock] at hb;exact hb.symm)
  have hT4:=HX3.out.tab.grow (D':=D) HO3.out (fun b hb=>.inr (by simp[Value.ownBlock] at hb;exact hb.symm)) (hU4.mono (fun b _ e=>by subst e;rfl)) (fun b hb=>⟨.inl (.inl hb),by have:=HD1.out b hb;have:=HX3.out.upd.size;have:=HXa.out.upd.size;have:=hU4.size;have:=HX3.out.tab.d b (.inl hb);omega⟩)
  have HX4:=ah ((HXa.out.trans HX3.out HTA.out.size).grow hT4 hsa hU4)
  have HO4:=ah (show w4.ownsRow base 3 1 (.slice A4 2 c4) 2 (bn ([(f l).2,r.2].map fun(s:Nat)=>(s:Int))) from o4)
  have h14:g1 < w3.heap.size:=(HO3.out.lt g1 rfl).2
  have HD4:=ah (show ∀b,(Value.slice A4 2 c4).ownBlock=some b→¬D b from fun b hb hd=>by
   have:=HD1.out b hd
   rcases hat with hx | hx
   ·rw[hb] at hx
    simp[Value.ownBlock] at hx
    omega
   ·rw[hb] at hx
    injection hx with hx
    omega)
  have HSB2:=ah (show ∀s∈[(f l).2,r.2],s < r.1.length from HSB.out)
  have HR4:=ah (row_any (ss:=[(f l).2,r.2]) (c:=c4) HX4.out.tab HO4.out HD4.out HSB.out (by omega) (by simp))
  clear o4 g4 hat hU4 hT4 HX3 HO3 hb4
  clear e0 e1 e2 e3 e4 e5 e6 e7 e8
  have HPU:=ah (fun(w5:World) (T5:Option Addr) (c5:Nat) (hX5:TNx base tb S D w4 T3 q.1 w5 T5 c5)=>jT (x:=aX 103 [q.2] lz) (q:=((none,0),(some ⟨w5.heap.size,0,none⟩,1))) (hX5.tab.upd ((Upd.refl Nob w5).alloc (.cells #[.int .i64 (q.2:Int)] 3))) (jI (one_own q.2 hX5.tab.eO)) (fun b hb hd=>by have:=hX5.tab.d b hd;simp[Value.ownBlock] at hb;omega) (by simp[aX];exact hq2) (by omega) (by simp[aX]))
  go_wp2_with (first | (go_at_call 87;refine HR4.out.mono ?_;rw[HQ.out];rintro e w5 ⟨rfl,T5,c5,hX5⟩;have HX5:=ah hX5;clear hX5) | (go_at_call 64;refine(HPU.out w5 T5 c5 HX5.out).mono ?_;rintro e w7 ⟨rfl,T7,c7,hX7⟩))
  go_ret
  have htb2:=HTA.out.size
  exact⟨rfl,T7,c7,HA0.out.trans (((HX4.out.trans HX5.out htb2).trans (TNx.aM HX5.out.tab ((Upd.refl Nob w5).alloc _)) htb2).trans hX7 htb2) htb⟩
end Go.Proofs.Ytnkefclbchpafaa

/-
  The walk of gY.Greatest: the greatest Index of a tree.
-/
namespace Go.Proofs.Ytnkefclbchpafaa
set_option maxRecDepth 100000
set_option maxHeartbeats 16000000
open Go.RowKit
set_option linter.unusedVariables false
mutual
def dF:Tree→Int
 | .mk k rs am subs mn mx lz ix nm=>grtL ix subs
def grtL:Int→List Tree→Int
 | n,[]=>n
 | n,t::l=>grtL (max n (dF t)) l
end
theorem grtT_eq (t:Tree):dF t=grtL t.ix t.subs:=by
 obtain⟨k,rs,am,subs,mn,mx,lz,ix,nm⟩:=t
 rw[dF]
 rfl
theorem greatest_go (n:Nat):∀(t:Tree) (w:World) (S:Nat→Prop) (cs:Array Value),SizeOf.sizeOf t≤n→aB w S cs t →
  Calls Try.prog 36 #[.agg cs] w fun e w'=>e=.returned (.int .i64 (dF t))∧In64 (dF t)∧Upd Nob w w':=by
 induction n with
 | zero=>exact fun t _ _ _ h=>by obtain⟨k,r,a,l,m,x,z,i,nn⟩:=t;simp at h
 | succ n ih =>
 intro t w S cs hn h1
 obtain⟨RA,rc,SA,sc,rfl,hr1,ho,hs1⟩:=h1.top
 have C0:=Cells.new w 47 (au t RA rc SA sc)
 have hU:=(Upd.refl Nob w).alloc (.cells (au t RA rc SA sc) 47)
 have IH:=ah ih
 have HN:=ah hn
 have H1:=ah (h1.bA hU (fun _ _=>aj))
 have hnl:=ho.n
 have HIX:=ah ho.i
 have HE:=ah (grtT_eq t)
 clear ih hn h1 hr1 hs1 ho
 unfold au at C0 hU H1
 unfold au
 go_enter Try.func36,Try.ntmps36
 go_upto_region 1 with fail
 generalize w.alloc (.cells #[.int .i64 t.kind,.slice RA t.rs.length rc,.int .i64 t.am,.slice SA t.subs.length sc,.int .i64 t.mn,.int .i64 t.mx,.bool t.lz,.int .i64 t.ix,.string t.nm] 47)=w2 at *
 have HU:=ah hU
 have HC:=ah C0
 obtain⟨e0,e1,e2,e3,e4,e5,e6,e7,e8⟩:=aI C0
 clear C0 hU
 go_wp2_with fail
 go_loopg [3,4] t.subs.length (fun gk v3 v4 wr=>∃(k:Nat) (v:Int),k+gk=t.subs.length∧v4=.int .i64 (k:Int)∧v3=.int .i64 v∧In64 v∧grtL v (t.subs.drop k)=dF t∧Upd Nob w2 wr)
 case atStart=>exact⟨0,t.ix,by omega,rfl,rfl,HIX.out,by rw[List.drop_zero,HE.out],Upd.refl _ _⟩
 case round =>
  obtain⟨k,v,hk,rfl,rfl,hv,hgr,hUr⟩:=hrel
  have b3:wr.cell? ⟨w.heap.size,0+3,none⟩=some (.slice SA t.subs.length sc):=(HC.out.upd hUr aj).ak rfl
  have HUr:=ah hUr
  have HV:=ah hv
  have HGR:=ah hgr
  have HK:=ah hk
  by_cases hlt:k < t.subs.length
  ·have g2:(k:Int) < (t.subs.length:Int):=by omega
   obtain⟨ad,g,o,x,PA,pc,QA,qc,rfl,hadd,hSg,hgl,hx,hX,hlx,hcs⟩:=aB.sub H1.out.open_.2.2 hlt
   obtain⟨p0,p1,p2,p3,p4,p5,p6,p7,p8⟩:=bH (fun j v hv=>(hUr.cell (p:=⟨g,o+j,none⟩) hgl aj).trans (hcs j v hv))
   have hxn:SizeOf.sizeOf x≤n:=by have:=HN.out;omega
   have HX:=ah (hX.bA hUr (fun _ _=>aj))
   have hd:t.subs.drop k=x::t.subs.drop (k+1):=by
    rw[List.drop_eq_getElem_cons hlt]
    congr 1
    rw[List.getElem?_eq_getElem hlt] at hx
    injection hx
   rw[hd,grtL] at hgr
   have HGR:=ah hgr
   clear hcs hX hlx hx hd hgr hUr hv hk
   go_wp2_with (go_at_call 36;refine(IH.out x wr _ _ hxn HX.out).mono ?_;rintro e w5 ⟨rfl,hi5,hU5⟩;have HI5:=ah hi5;have HU5:=ah (HUr.out.trans hU5 (fun _ _ h=>h));clear hi5 hU5)
   ·go_roundg (t.subs.length - (k+1))
    case measure=>have:=HK.out;omega
    case rel=>exact⟨k+1,dF x,by have:=HK.out;omega,by go_num,rfl,HI5.out,by have h:=HGR.out;rwa [show max v (dF x)=dF x by omega] at h,HU5.out⟩
   ·go_roundg (t.subs.length - (k+1))
    case measure=>have:=HK.out;omega
    case rel=>exact⟨k+1,v,by have:=HK.out;omega,by go_num,rfl,HV.out,by have h:=HGR.out;rwa [show max v (dF x)=v by omega] at h,HU5.out⟩
  ·have g2:¬(k:Int) < (t.subs.length:Int):=by omega
   rw[List.drop_eq_nil_of_le (by omega),grtL] at hgr
   have HGR:=ah hgr
   clear hUr hv hgr hk
   go_wp2_with fail
   go_ret
   rw[←HGR.out]
   exact⟨rfl,HV.out,HU.out.trans HUr.out (fun _ _ h=>h)⟩
end Go.Proofs.Ytnkefclbchpafaa

/-
  The walk of jV.loop.
-/
namespace Go.Proofs.Ytnkefclbchpafaa
set_option maxRecDepth 100000
set_option maxHeartbeats 16000000
open Go.RowKit
set_option linter.unusedVariables false
def jC (s:Tree) (S:Nat→Prop) (w:World) (e:Ending) (w':World):Prop:=∃cs,e=.returned (.agg cs)∧aB w' (fun b=>S b∨w.heap.size≤b) cs s∧Upd Nob w w'
theorem jJ {w:World} {S:Nat→Prop}:bO w S none 0 []:=⟨Reads.nil_,fun x hx=>(by cases hx),by omega⟩
theorem bI {x:Int} (h0:-9223372036854775808≤x) (h1:x≤9223372036854775807):In64 x:=⟨by omega,by omega⟩
theorem loop7_any (y:Tree) (mn mx:Int) (lz:Bool) (w:World) (S:Nat→Prop) (cs:Array Value) (h1:aB w S cs y) (hm:In64 mn) (hx:In64 mx) :
  Calls Try.prog 97 #[.agg cs,.int .i64 mn,.int .i64 mx,.bool lz] w (jC (aY y mn mx lz) S w):=by
 obtain⟨RA,rc,SA,sc,rfl,hr1,ho,hs1⟩:=h1.top
 have C0:=Cells.new w 47 (au y RA rc SA sc)
 have hU:=(Upd.refl Nob w).alloc (.cells (au y RA rc SA sc) 47)
 have H1:=ah h1
 have HM:=ah (And.intro hm hx)
 clear hr1 hs1 ho h1 hm hx
 generalize hP:jC (aY y mn mx lz) S w=P
 have HP:=ah hP
 clear hP
 unfold au at C0 hU
 unfold au
 go_enter Try.func97,Try.ntmps97
 go_upto_region 1 with fail
 have hs1:(w.alloc (.cells #[.int .i64 y.kind,.slice RA y.rs.length rc,.int .i64 y.am,.slice SA y.subs.length sc,.int .i64 y.mn,.int .i64 y.mx,.bool y.lz,.int .i64 y.ix,.string y.nm] 47)).heap.size=w.heap.size+1:=by simp
 generalize w.alloc (.cells #[.int .i64 y.kind,.slice RA y.rs.length rc,.int .i64 y.am,.slice SA y.subs.length sc,.int .i64 y.mn,.int .i64 y.mx,.bool y.lz,.int .i64 y.ix,.string y.nm] 47)=w1 at *
 have C8:=Cells.new w1 47 #[.int .i64 0,.slice none 0 0,.int .i64 0,.slice none 0 0,.int .i64 0,.int .i64 0,.bool false,.int .i64 0,.string ⟨#[]⟩]
 have hU2:=hU.alloc (.cells #[.int .i64 0,.slice none 0 0,.int .i64 0,.slice none 0 0,.int .i64 0,.int .i64 0,.bool false,.int .i64 0,.string ⟨#[]⟩] 47)
 have C1:=C0.alloc (.cells #[.int .i64 0,.slice none 0 0,.int .i64 0,.slice none 0 0,.int .i64 0,.int .i64 0,.bool false,.int .i64 0,.string ⟨#[]⟩] 47)
 have hs2:(w1.alloc (.cells #[.int .i64 0,.slice none 0 0,.int .i64 0,.slice none 0 0,.int .i64 0,.int .i64 0,.bool false,.int .i64 0,.string ⟨#[]⟩] 47)).heap.size=w.heap.size+2:=by simp[hs1]
 generalize w1.alloc (.cells #[.int .i64 0,.slice none 0 0,.int .i64 0,.slice none 0 0,.int .i64 0,.int .i64 0,.bool false,.int .i64 0,.string ⟨#[]⟩] 47)=w2 at *
 rw[hs1] at C8
 have HU:=ah hU2
 have HC8:=ah C8
 obtain⟨e0,e1,e2,e3,e4,e5,e6,e7,e8⟩:=aI C1
 obtain⟨d0,d1,d2,d3,d4,d5,d6,d7,d8⟩:=aI C8
 have z:=fun j=>C8.frozen j
 have z0:=z 0
 have z1:=z 1
 have z2:=z 2
 have z3:=z 3
 have z4:=z 4
 have z5:=z 5
 have z6:=z 6
 have z7:=z 7
 have z8:=z 8
 clear C0 C1 C8 hU hU2 hs1 z
 go_wp2_with fail
 have C9:Cells (((((((((w2.setCell ⟨w.heap.size+1,0,none⟩ (.int .i64 6)).setCell ⟨w.heap.size+1,1,none⟩ (.slice none 0 0)).setCell ⟨w.heap.size+1,2,none⟩ (.int .i64 0)).setCell ⟨w.heap.size+1,3,none⟩ (.slice (some ⟨w.heap.size+2,0,none⟩) 1 1)).setCell ⟨w.heap.size+1,4,none⟩ (.int .i64 mn)).setCell ⟨w.heap.size+1,5,none⟩ (.int .i64 mx)).setCell ⟨w.heap.size+1,6,none⟩ (.bool lz)).setCell ⟨w.heap.size+1,7,none⟩ (.int .i64 0)).setCell ⟨w.heap.size+1,8,none⟩ (.string ⟨#[]⟩)) (w.heap.size+1) 47 #[.int .i64 6,.slice none 0 0,.int .i64 0,.slice (some ⟨w.heap.size+2,0,none⟩) 1 1,.int .i64 mn,.int .i64 mx,.bool lz,.int .i64 0,.string ⟨#[]⟩]:=(((((((((HC8.out.aW 0 (.int .i64 6)).aW 1 (.slice none 0 0)).aW 2 (.int .i64 0)).aW 3 (.slice (some ⟨w.heap.size+2,0,none⟩) 1 1)).aW 4 (.int .i64 mn)).aW 5 (.int .i64 mx)).aW 6 (.bool lz)).aW 7 (.int .i64 0)).aW 8 (.string ⟨#[]⟩))
 have U9:Upd Nob w (((((((((w2.setCell ⟨w.heap.size+1,0,none⟩ (.int .i64 6)).setCell ⟨w.heap.size+1,1,none⟩ (.slice none 0 0)).setCell ⟨w.heap.size+1,2,none⟩ (.int .i64 0)).setCell ⟨w.heap.size+1,3,none⟩ (.slice (some ⟨w.heap.size+2,0,none⟩) 1 1)).setCell ⟨w.heap.size+1,4,none⟩ (.int .i64 mn)).setCell ⟨w.heap.size+1,5,none⟩ (.int .i64 mx)).setCell ⟨w.heap.size+1,6,none⟩ (.bool lz)).setCell ⟨w.heap.size+1,7,none⟩ (.int .i64 0)).setCell ⟨w.heap.size+1,8,none⟩ (.string ⟨#[]⟩)):=(((((((((HU.out.setCell ⟨w.heap.size+1,0,none⟩ (.int .i64 6) (fun h=>absurd h (by show ¬w.heap.size+1 < w.heap.size;omega))).setCell ⟨w.heap.size+1,1,none⟩ (.slice none 0 0) (fun h=>absurd h (by show ¬w.heap.size+1 < w.heap.size;omega))).setCell ⟨w.heap.size+1,2,none⟩ (.int .i64 0) (fun h=>absurd h (by show ¬w.heap.size+1 < w.heap.size;omega))).setCell ⟨w.heap.size+1,3,none⟩ (.slice (some ⟨w.heap.size+2,0,none⟩) 1 1) (fun h=>absurd h (by show ¬w.heap.size+1 < w.heap.size;omega))).setCell ⟨w.heap.size+1,4,none⟩ (.int .i64 mn) (fun h=>absurd h (by show ¬w.heap.size+1 < w.heap.size;omega))).setCell ⟨w.heap.size+1,5,none⟩ (.int .i64 mx) (fun h=>absurd h (by show ¬w.heap.size+1 < w.heap.size;omega))).setCell ⟨w.heap.size+1,6,none⟩ (.bool lz) (fun h=>absurd h (by show ¬w.heap.size+1 < w.heap.size;omega))).setCell ⟨w.heap.size+1,7,none⟩ (.int .i64 0) (fun h=>absurd h (by show ¬w.heap.size+1 < w.heap.size;omega))).setCell ⟨w.heap.size+1,8,none⟩ (.string ⟨#[]⟩) (fun h=>absurd h (by show ¬w.heap.size+1 < w.heap.size;omega)))
 have s9:(((((((((w2.setCell ⟨w.heap.size+1,0,none⟩ (.int .i64 6)).setCell ⟨w.heap.size+1,1,none⟩ (.slice none 0 0)).setCell ⟨w.heap.size+1,2,none⟩ (.int .i64 0)).setCell ⟨w.heap.size+1,3,none⟩ (.slice (some ⟨w.heap.size+2,0,none⟩) 1 1)).setCell ⟨w.heap.size+1,4,none⟩ (.int .i64 mn)).setCell ⟨w.heap.size+1,5,none⟩ (.int .i64 mx)).setCell ⟨w.heap.size+1,6,none⟩ (.bool lz)).setCell ⟨w.heap.size+1,7,none⟩ (.int .i64 0)).setCell ⟨w.heap.size+1,8,none⟩ (.string ⟨#[]⟩)).heap.size=w.heap.size+2:=by simp[hs2]
 clear HC8 HU z0 z1 z2 z3 z4 z5 z6 z7 z8 e0 e1 e2 e3 e4 e5 e6 e7 e8 d0 d1 d2 d3 d4 d5 d6 d7 d8
 generalize (((((((((w2.setCell ⟨w.heap.size+1,0,none⟩ (.int .i64 6)).setCell ⟨w.heap.size+1,1,none⟩ (.slice none 0 0)).setCell ⟨w.heap.size+1,2,none⟩ (.int .i64 0)).setCell ⟨w.heap.size+1,3,none⟩ (.slice (some ⟨w.heap.size+2,0,none⟩) 1 1)).setCell ⟨w.heap.size+1,4,none⟩ (.int .i64 mn)).setCell ⟨w.heap.size+1,5,none⟩ (.int .i64 mx)).setCell ⟨w.heap.size+1,6,none⟩ (.bool lz)).setCell ⟨w.heap.size+1,7,none⟩ (.int .i64 0)).setCell ⟨w.heap.size+1,8,none⟩ (.string ⟨#[]⟩))=w3 at *
 have CA:=C9.alloc (.cells #[.int .i64 y.kind,.slice RA y.rs.length rc,.int .i64 y.am,.slice SA y.subs.length sc,.int .i64 y.mn,.int .i64 y.mx,.bool y.lz,.int .i64 y.ix,.string y.nm] 47)
 have CN:=Cells.new w3 47 #[.int .i64 y.kind,.slice RA y.rs.length rc,.int .i64 y.am,.slice SA y.subs.length sc,.int .i64 y.mn,.int .i64 y.mx,.bool y.lz,.int .i64 y.ix,.string y.nm]
 rw[s9] at CN
 have UA:=U9.alloc (.cells #[.int .i64 y.kind,.slice RA y.rs.length rc,.int .i64 y.am,.slice SA y.subs.length sc,.int .i64 y.mn,.int .i64 y.mx,.bool y.lz,.int .i64 y.ix,.string y.nm] 47)
 have sA:(w3.alloc (.cells #[.int .i64 y.kind,.slice RA y.rs.length rc,.int .i64 y.am,.slice SA y.subs.length sc,.int .i64 y.mn,.int .i64 y.mx,.bool y.lz,.int .i64 y.ix,.string y.nm] 47)).heap.size=w.heap.size+3:=by simp[s9]
 generalize w3.alloc (.cells #[.int .i64 y.kind,.slice RA y.rs.length rc,.int .i64 y.am,.slice SA y.subs.length sc,.int .i64 y.mn,.int .i64 y.mx,.bool y.lz,.int .i64 y.ix,.string y.nm] 47)=w4 at *
 obtain⟨d0,d1,d2,d3,d4,d5,d6,d7,d8⟩:=aI CA
 refine bodyPost_ret (by simp[results,Try.results97,go_sem,d0,d1,d2,d3,d4,d5,d6,d7,d8];try rfl) rfl ?_
 rw[←HP.out]
 have hm:=HM.out
 refine⟨_,rfl,aB.of (t:=aY y mn mx lz) (RA:=none) (rc:=0) (SA:=some ⟨w.heap.size+2,0,none⟩) (sc:=1) jJ ⟨bI (x:=6) (by omega) (by omega),bI (x:=0) (by omega) (by omega),hm.1,hm.2,bI (x:=0) (by omega) (by omega),by show 1≤_;omega,by show 0≤_;omega⟩ (fun i x hx=>?_),UA⟩
 match i,hx with
 | 0,hx =>
  have hx:some y=some x:=hx
  injection hx with hx
  subst hx
  exact⟨_,w.heap.size+2,0,_,rfl,by simp[Addr.add],.inr (by omega),by omega,fun j v hv=>by rw[Nat.zero_add];exact CN.ak hv,(H1.out.bA UA (fun _ _=>aj)).weaken (fun _ h=>.inl h)⟩
 | i+1,hx=>simp[Tree.subs,aY] at hx
end Go.Proofs.Ytnkefclbchpafaa
