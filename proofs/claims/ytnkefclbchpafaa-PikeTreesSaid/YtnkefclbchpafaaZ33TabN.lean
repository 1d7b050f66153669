/-
  ParL, WkC, TabN, put together.
-/
import Derived.Test.YtnkefclbchpafaaZ32ParR
import Derived.Test.YtnkefclbchpafaaZ07Tab
import Derived.Test.YtnkefclbchpafaaZ20UnfO

/-
  The loops of gY.Parses: the rows of marks are made, the captures begun. Printed by tools/mkParL.py.
-/
namespace Go.Proofs.Ytnkefclbchpafaa
set_option maxRecDepth 100000
set_option maxHeartbeats 16000000
open Go.RowKit
set_option linter.unusedVariables false
def iM:Code→Nat→Code
 | .seq a _,0=>a
 | .seq _ b,n+1=>iM b n
 | c,_=>c
def seqAt:Code→Nat→Code
 | c,0=>c
 | .seq _ b,n+1=>seqAt b n
 | c,_+1=>c
def rowsV (f:Nat→Nat) (n k:Nat):List Value:=(List.range k).map fun i=>.slice (some ⟨f i,0,none⟩) (n+1) (n+1)
theorem rowsV_at (f:Nat→Nat) (n:Nat) {k i:Nat} (h:i < k):(rowsV f n k)[i]?=some (.slice (some ⟨f i,0,none⟩) (n+1) (n+1)):=by simp[rowsV,h]
def more (f:Nat→Nat) (k g:Nat):Nat→Nat:=fun i=>if i=k then g else f i
theorem rowsV_more (f:Nat→Nat) (n k g:Nat):rowsV (more f k g) n (k+1)=rowsV f n k++[.slice (some ⟨g,0,none⟩) (n+1) (n+1)]:=by
 unfold rowsV
 rw[List.range_succ,List.map_append]
 congr 1
 ·refine List.map_congr_left (fun i hi=>?_)
  have:=List.mem_range.1 hi
  simp[more,show ¬i=k by omega]
 ·simp[more]
structure Mks (w0 w:World) (wb n k kd:Nat) (p0 p1 p2 p5 p6:Value) (BA DA:Option Addr) (bc dc:Nat) (bgb dcb:Nat→Nat):Prop where
 wk:Cells w wb 100 #[p0,p1,p2,.slice BA k bc,.slice DA kd dc,p5,p6]
 bo:w.ownsRow w0.heap.size 77 1 (.slice BA k bc) k (rowsV bgb n k)
 dk:w.ownsRow w0.heap.size 77 1 (.slice DA kd dc) kd (rowsV dcb n kd)
 ne:∀b,(Value.slice DA kd dc).ownBlock=some b→¬(Value.slice BA k bc).ownBlock=some b
 bg:∀i,i < k→Cells w (bgb i) 4 (dQ noMark (n+1))∧w0.heap.size≤bgb i
 dg:∀i,i < kd→Cells w (dcb i) 4 (dQ noMark (n+1))∧w0.heap.size≤dcb i
 bb:∀i j,i < k→j < k→bgb i=bgb j→i=j
 dd:∀i j,i < kd→j < kd→dcb i=dcb j→i=j
 bd:∀i j,i < k→j < kd→bgb i≠dcb j
 lo:wb < w0.heap.size
 upd:Upd (fun b=>b=wb) w0 w
theorem more_inj {f:Nat→Nat} {k g:Nat} (h:∀i j,i < k→j < k→f i=f j→i=j) (hg:∀i,i < k→f i≠g):∀i j,i < k+1→j < k+1→more f k g i=more f k g j→i=j:=by
 intro i j hi hj he
 unfold more at he
 by_cases e1:i=k <;> by_cases e2:j=k
 ·omega
 ·rw[if_pos e1,if_neg e2] at he
  exact absurd he.symm (hg j (by omega))
 ·rw[if_neg e1,if_pos e2] at he
  exact absurd he (hg i (by omega))
 ·rw[if_neg e1,if_neg e2] at he
  exact h i j (by omega) (by omega) he
theorem more_at {f:Nat→Nat} {k g i:Nat} (h:i < k):more f k g i=f i:=by simp[more,show ¬i=k by omega]
theorem more_k {f:Nat→Nat} {k g:Nat}:more f k g k=g:=by simp[more]
section
variable {w0 w w4 : World} {wb n k kd : Nat} {p0 p1 p2 p5 p6 : Value} {BA DA : Option Addr} {bc dc gB gN cN : Nat} {bgb dcb : Nat → Nat}
theorem Mks.b (h:Mks w0 w wb n k kd p0 p1 p2 p5 p6 BA DA bc dc bgb dcb) (hU:Upd (fun(b:Nat)=>(Value.slice BA k bc).ownBlock=some b) w w4) (hgB:gB=w.heap.size) (hG:Cells w4 gB 4 (dQ noMark (n+1)))
  (hat:(Value.slice BA k bc).ownBlock=some gN∨gN=w.heap.size+2) (oN:w4.ownsRow w0.heap.size 77 1 (.slice (some ⟨gN,0,none⟩) (k+1) cN) (k+1) (rowsV bgb n k++[.slice (some ⟨gB,0,none⟩) (n+1) (n+1)])) (C4:Cells w4 wb 100 #[p0,p1,p2,.slice BA k bc,.slice DA kd dc,p5,p6]) :
  Mks w0 (w4.setCell ⟨wb,0+3,none⟩ (.slice (some ⟨gN,0,none⟩) (k+1) cN)) wb n (k+1) kd p0 p1 p2 p5 p6 (some ⟨gN,0,none⟩) DA cN dc (more bgb k gB) dcb:=by
 have hUy:=(Upd.refl (fun b=>b=wb) w4).setCell ⟨wb,0+3,none⟩ (.slice (some ⟨gN,0,none⟩) (k+1) cN) (fun _=>rfl)
 have hsz:=h.upd.size
 have hAlo:∀b,(Value.slice BA k bc).ownBlock=some b→w0.heap.size≤b:=fun b hb=>ji h.bo hb
 have hcell:∀q,Cells w q 4 (dQ noMark (n+1))→Cells (w4.setCell ⟨wb,0+3,none⟩ (.slice (some ⟨gN,0,none⟩) (k+1) cN)) q 4 (dQ noMark (n+1)):=fun q hq=>(hq.upd hU (fun e=>own_ne h.bo hq (by decide) e)).upd hUy (Cells.ne_ hq h.wk (by decide))
 have hbel:∀i,i < k→bgb i < w.heap.size:=fun i hi=>(h.bg i hi).1.lt
 have hbel2:∀i,i < kd→dcb i < w.heap.size:=fun i hi=>(h.dg i hi).1.lt
 have oA:=aJ oN hUy (fun b hb e=>by subst e;exact own_ne oN C4 (by decide) hb)
 have oB:(w4.setCell ⟨wb,0+3,none⟩ (.slice (some ⟨gN,0,none⟩) (k+1) cN)).ownsRow w0.heap.size 77 1 (.slice DA kd dc) kd (rowsV dcb n kd):=by
  have h1:=aJ h.dk hU (fun b hb e=>h.ne b hb e)
  exact aJ h1 hUy (fun b hb e=>by subst e;exact own_ne h1 C4 (by decide) hb)
 have hcA:∀i,i < k+1→Cells (w4.setCell ⟨wb,0+3,none⟩ (.slice (some ⟨gN,0,none⟩) (k+1) cN)) (more bgb k gB i) 4 (dQ noMark (n+1))∧w0.heap.size≤more bgb k gB i:=fun i hi=>by
  by_cases e:i=k
  ·subst e
   rw[more_k]
   exact⟨hG.upd hUy (Cells.ne_ hG C4 (by decide)),by omega⟩
  ·rw[more_at (by omega)]
   exact⟨hcell _ (h.bg i (by omega)).1,(h.bg i (by omega)).2⟩
 have hcB:∀i,i < kd→Cells (w4.setCell ⟨wb,0+3,none⟩ (.slice (some ⟨gN,0,none⟩) (k+1) cN)) (dcb i) 4 (dQ noMark (n+1))∧w0.heap.size≤dcb i:=fun i hi=>⟨hcell _ (h.dg i hi).1,(h.dg i hi).2⟩
 have hne:∀b,(Value.slice DA kd dc).ownBlock=some b→¬gN=b:=fun b hb e=>by
  subst e
  rcases hat with hx | hx
  ·exact h.ne _ hb hx
  ·obtain⟨cur,hc,-⟩:=aK h.dk hb
   have:=hc.lt
   omega
 have hup:Upd (fun b=>b=wb) w0 (w4.setCell ⟨wb,0+3,none⟩ (.slice (some ⟨gN,0,none⟩) (k+1) cN)):=(h.upd.trans hU (fun b hb e=>by have:=hAlo b e;omega)).trans hUy (fun _ _ e=>e)
 have hW:=C4.aW 3 (.slice (some ⟨gN,0,none⟩) (k+1) cN)
 rw[←rowsV_more] at oA
 exact⟨hW,oA,oB,fun b hb e=>hne b hb (by simpa [Value.ownBlock] using e),hcA,hcB,more_inj h.bb (fun i hi=>by have:=hbel i hi;omega),h.dd,fun i j hi hj=>by
  by_cases e:i=k
  ·subst e;rw[more_k];have:=hbel2 j hj;omega
  ·rw[more_at (by omega)];exact h.bd i j (by omega) hj,h.lo,hup⟩
theorem Mks.d (h:Mks w0 w wb n k kd p0 p1 p2 p5 p6 BA DA bc dc bgb dcb) (hU:Upd (fun(b:Nat)=>(Value.slice DA kd dc).ownBlock=some b) w w4) (hgB:gB=w.heap.size) (hG:Cells w4 gB 4 (dQ noMark (n+1)))
  (hat:(Value.slice DA kd dc).ownBlock=some gN∨gN=w.heap.size+2) (oN:w4.ownsRow w0.heap.size 77 1 (.slice (some ⟨gN,0,none⟩) (kd+1) cN) (kd+1) (rowsV dcb n kd++[.slice (some ⟨gB,0,none⟩) (n+1) (n+1)])) (C4:Cells w4 wb 100 #[p0,p1,p2,.slice BA k bc,.slice DA kd dc,p5,p6]) :
  Mks w0 (w4.setCell ⟨wb,0+4,none⟩ (.slice (some ⟨gN,0,none⟩) (kd+1) cN)) wb n k (kd+1) p0 p1 p2 p5 p6 BA (some ⟨gN,0,none⟩) bc cN bgb (more dcb kd gB):=by
 have hUy:=(Upd.refl (fun b=>b=wb) w4).setCell ⟨wb,0+4,none⟩ (.slice (some ⟨gN,0,none⟩) (kd+1) cN) (fun _=>rfl)
 have hsz:=h.upd.size
 have hAlo:∀b,(Value.slice DA kd dc).ownBlock=some b→w0.heap.size≤b:=fun b hb=>ji h.dk hb
 have hcell:∀q,Cells w q 4 (dQ noMark (n+1))→Cells (w4.setCell ⟨wb,0+4,none⟩ (.slice (some ⟨gN,0,none⟩) (kd+1) cN)) q 4 (dQ noMark (n+1)):=fun q hq=>(hq.upd hU (fun e=>own_ne h.dk hq (by decide) e)).upd hUy (Cells.ne_ hq h.wk (by decide))
 have hbel:∀i,i < kd→dcb i < w.heap.size:=fun i hi=>(h.dg i hi).1.lt
 have hbel2:∀i,i < k→bgb i < w.heap.size:=fun i hi=>(h.bg i hi).1.lt
 have oA:=aJ oN hUy (fun b hb e=>by subst e;exact own_ne oN C4 (by decide) hb)
 have oB:(w4.setCell ⟨wb,0+4,none⟩ (.slice (some ⟨gN,0,none⟩) (kd+1) cN)).ownsRow w0.heap.size 77 1 (.slice BA k bc) k (rowsV bgb n k):=by
  have h1:=aJ h.bo hU (fun b hb e=>h.ne b e hb)
  exact aJ h1 hUy (fun b hb e=>by subst e;exact own_ne h1 C4 (by decide) hb)
 have hcA:∀i,i < kd+1→Cells (w4.setCell ⟨wb,0+4,none⟩ (.slice (some ⟨gN,0,none⟩) (kd+1) cN)) (more dcb kd gB i) 4 (dQ noMark (n+1))∧w0.heap.size≤more dcb kd gB i:=fun i hi=>by
  by_cases e:i=kd
  ·subst e
   rw[more_k]
   exact⟨hG.upd hUy (Cells.ne_ hG C4 (by decide)),by omega⟩
  ·rw[more_at (by omega)]
   exact⟨hcell _ (h.dg i (by omega)).1,(h.dg i (by omega)).2⟩
 have hcB:∀i,i < k→Cells (w4.setCell ⟨wb,0+4,none⟩ (.slice (some ⟨gN,0,none⟩) (kd+1) cN)) (bgb i) 4 (dQ noMark (n+1))∧w0.heap.size≤bgb i:=fun i hi=>⟨hcell _ (h.bg i hi).1,(h.bg i hi).2⟩
 have hne:∀b,(Value.slice BA k bc).ownBlock=some b→¬gN=b:=fun b hb e=>by
  subst e
  rcases hat with hx | hx
  ·exact h.ne _ hx hb
  ·obtain⟨cur,hc,-⟩:=aK h.bo hb
   have:=hc.lt
   omega
 have hup:Upd (fun b=>b=wb) w0 (w4.setCell ⟨wb,0+4,none⟩ (.slice (some ⟨gN,0,none⟩) (kd+1) cN)):=(h.upd.trans hU (fun b hb e=>by have:=hAlo b e;omega)).trans hUy (fun _ _ e=>e)
 have hW:=C4.aW 4 (.slice (some ⟨gN,0,none⟩) (kd+1) cN)
 rw[←rowsV_more] at oA
 exact⟨hW,oB,oA,fun b hb e=>hne b e (by simpa [Value.ownBlock] using hb),hcB,hcA,h.bb,more_inj h.dd (fun i hi=>by have:=hbel i hi;omega),fun i j hi hj=>by
  by_cases e:j=kd
  ·subst e;rw[more_k];have:=hbel2 i hi;omega
  ·rw[more_at (by omega)];exact h.bd i j hi (by omega),h.lo,hup⟩
end
theorem par_loop1 (Q:Exit→Act→World→Prop) (K rest:Code) (w0:World) (wb tb n tc L lc:Nat) (TA TL:Option Addr) (p0 p1 p2 p5 p6:Value) (x0 x2 x3 x4 x5 x6 x7 x8 x9 x11 x13 x14 x15 x16 x17 x18 x19 x20 x21 x22 x23 x24 x25 x26 x27 x28 x29 x30 x31 x32 x33 x34 x35 x36 x37 x38 x39 x40 x41 x42 x43 x44 x45 x46 x47 x48 x49 x50 x51 x52 x53 x54 x55 x56 x57 x58 x59 x60 x61 x62 x63 x64 x65 x66 x67 x68 x69 x70 x71 x72 x73 x74 x75 x76 x77 x78 x79 x80 x81 x82 x83 x84 x85 x86 x87 x88 x89 x90 x91 x92 x93 x94 x95 x96 x97 x98 x99 x100 x101 x102 x103 x104 x105 x106:Value) (hK:Try.f25.body=some K)
  (hT:Cells w0 tb 96 #[.slice TL L lc]) (hW:Cells w0 wb 100 #[p0,p1,p2,.slice none 0 0,.slice none 0 0,p5,p6]) (hL:L≤90000) (hn:n≤64)
  (hnext:∀(y0 y2 y3 y4 y5 y6 y7 y8 y9 y11 y13 y14 y15 y16 y17 y18 y19 y20 y21 y22 y23 y24 y25 y26 y27 y28 y29 y30 y31 y32 y33 y34 y35 y36 y37 y38 y39 y40 y41 y42 y43 y44 y45 y46 y47 y48 y49 y50 y51 y52 y53 y54 y55 y56 y57 y58 y59 y60 y61 y62 y63 y64 y65 y66 y67 y68 y69 y70 y71 y72 y73 y74 y75 y76 y77 y78 y79 y80 y81 y82 y83 y84 y85 y86 y87 y88 y89 y90 y91 y92 y93 y94 y95 y96 y97 y98 y99 y100 y101 y102 y103 y104 y105 y106:Value) (w:World) (BA DA:Option Addr) (bc dc:Nat) (bgb dcb:Nat→Nat),Mks w0 w wb n L L p0 p1 p2 p5 p6 BA DA bc dc bgb dcb→x0=y0→x2=y2→x3=y3→x11=y11→rest.wp Try.prog Q ⟨#[y0,.slice TA n tc,y2,y3,y4,y5,y6,y7,y8,y9,.pointer (some ⟨tb,0,none⟩),y11,.pointer (some ⟨wb,0,none⟩),y13,y14,y15,y16,y17,y18,y19,y20,y21,y22,y23,y24,y25,y26,y27,y28,y29,y30,y31,y32,y33,y34,y35,y36,y37,y38,y39,y40,y41,y42,y43,y44,y45,y46,y47,y48,y49,y50,y51,y52,y53,y54,y55,y56,y57,y58,y59,y60,y61,y62,y63,y64,y65,y66,y67,y68,y69,y70,y71,y72,y73,y74,y75,y76,y77,y78,y79,y80,y81,y82,y83,y84,y85,y86,y87,y88,y89,y90,y91,y92,y93,y94,y95,y96,y97,y98,y99,y100,y101,y102,y103,y104,y105,y106],[]⟩ w) :
  (Code.seq (iM K 10) rest).wp Try.prog Q ⟨#[x0,.slice TA n tc,x2,x3,x4,x5,x6,x7,x8,x9,.pointer (some ⟨tb,0,none⟩),x11,.pointer (some ⟨wb,0,none⟩),x13,x14,x15,x16,x17,x18,x19,x20,x21,x22,x23,x24,x25,x26,x27,x28,x29,x30,x31,x32,x33,x34,x35,x36,x37,x38,x39,x40,x41,x42,x43,x44,x45,x46,x47,x48,x49,x50,x51,x52,x53,x54,x55,x56,x57,x58,x59,x60,x61,x62,x63,x64,x65,x66,x67,x68,x69,x70,x71,x72,x73,x74,x75,x76,x77,x78,x79,x80,x81,x82,x83,x84,x85,x86,x87,x88,x89,x90,x91,x92,x93,x94,x95,x96,x97,x98,x99,x100,x101,x102,x103,x104,x105,x106],[]⟩ w0:=by
 injection hK with hK
 subst hK
 have HT:=ah hT
 have HN:=ah hnext
 have HTW:=ah (Cells.ne_ hT hW (by decide))
 have HM:=ah (show Mks w0 w0 wb n 0 0 p0 p1 p2 p5 p6 none none 0 0 (fun _=>0) (fun _=>0) from⟨hW,World.ownsRow_nil _ _ _ _,World.ownsRow_nil _ _ _ _,fun b hb=>(by cases hb),fun i hi=>(by omega),fun i hi=>(by omega),fun i j hi=>(by omega),fun i j hi=>(by omega),fun i j hi=>(by omega),hW.lt,Upd.refl _ _⟩)
 clear hT hW hnext
 simp only[iM]
 go_wp2_with fail
 go_loopg [13] L (fun gk v13 wr=>∃(k:Nat) (BA DA:Option Addr) (bc dc:Nat) (bgb dcb:Nat→Nat),k+gk=L∧v13=.int .i64 (k:Int)∧Mks w0 wr wb n k k p0 p1 p2 p5 p6 BA DA bc dc bgb dcb)
 case atStart=>exact⟨0,none,none,0,0,_,_,by omega,rfl,HM.out⟩
 case round =>
  obtain⟨k,BA,DA,bc,dc,bgb,dcb,hk,rfl,hM⟩:=hrel
  have HM:=ah hM
  have HK:=ah hk
  have c0:wr.cell? ⟨tb,0,none⟩=some (.slice TL L lc):=(HT.out.upd hM.upd HTW.out).ak rfl
  clear hM hk
  by_cases hlt:¬k < L
  ·obtain rfl:k=L:=by have:=HK.out;omega
   go_wp2_with fail
   exact HN.out _ _ _ _ _ _ _ _ _ _ _ _ _ _ _ _ _ _ _ _ _ _ _ _ _ _ _ _ _ _ _ _ _ _ _ _ _ _ _ _ _ _ _ _ _ _ _ _ _ _ _ _ _ _ _ _ _ _ _ _ _ _ _ _ _ _ _ _ _ _ _ _ _ _ _ _ _ _ _ _ _ _ _ _ _ _ _ _ _ _ _ _ _ _ _ _ _ _ _ _ _ _ _ _ wr BA DA bc dc bgb dcb HM.out rfl rfl rfl rfl
  have g1:(k:Int) < (L:Int):=by omega
  go_upto_region 17 with fail
  clear c0
  refine par_reg17 _ wr wb n tc k bc w0.heap.size TA BA (rowsV bgb n k) p0 p1 p2 (.slice DA k dc) p5 p6 _ _ _ _ _ _ _ _ _ _ _ _ _ _ _ _ _ _ _ _ _ _ _ _ _ _ _ _ _ _ _ _ _ _ _ _ _ _ _ _ _ _ _ _ _ _ _ _ _ _ _ _ _ _ _ _ _ _ _ _ _ _ _ _ _ _ _ _ _ _ _ _ _ _ _ _ _ _ _ _ _ _ _ _ _ _ _ _ _ _ _ _ _ _ _ _ _ _ _ _ _ _ _ _ _ HM.out.wk HM.out.bo HM.out.upd.size (by omega) hn ?_
  intro _ _ _ _ _ _ _ _ _ _ _ _ _ w4 gB gN cN hU hgB hG hat oN C4
  have HM2:=ah (HM.out.b hU hgB hG hat oN C4)
  generalize w4.setCell ⟨wb,0+3,none⟩ (.slice (some ⟨gN,0,none⟩) (k+1) cN)=w5 at *
  clear hU hgB hG hat oN C4 HM
  go_upto_region 18 with fail
  refine par_reg18 _ w5 wb n tc k dc w0.heap.size TA DA (rowsV dcb n k) p0 p1 p2 (.slice (some ⟨gN,0,none⟩) (k+1) cN) p5 p6 _ _ _ _ _ _ _ _ _ _ _ _ _ _ _ _ _ _ _ _ _ _ _ _ _ _ _ _ _ _ _ _ _ _ _ _ _ _ _ _ _ _ _ _ _ _ _ _ _ _ _ _ _ _ _ _ _ _ _ _ _ _ _ _ _ _ _ _ _ _ _ _ _ _ _ _ _ _ _ _ _ _ _ _ _ _ _ _ _ _ _ _ _ _ _ _ _ _ _ _ _ _ _ _ _ HM2.out.wk HM2.out.dk HM2.out.upd.size (by omega) hn ?_
  intro _ _ _ _ _ _ _ _ _ _ _ _ _ w6 gB2 gN2 cN2 hU hgB hG hat oN C4
  have HM3:=ah (HM2.out.d hU hgB hG hat oN C4)
  generalize w6.setCell ⟨wb,0+4,none⟩ (.slice (some ⟨gN2,0,none⟩) (k+1) cN2)=w7 at *
  clear hU hgB hG hat oN C4 HM2
  go_wp2_with fail
  go_roundg (L - (k+1))
  case measure=>have:=HK.out;omega
  case rel=>exact⟨k+1,_,_,_,_,_,_,by have:=HK.out;omega,by go_num,HM3.out⟩
theorem par_loop2 (Q:Exit→Act→World→Prop) (K rest:Code) (w0:World) (cb m lo:Nat) (x0 x1 x2 x3 x4 x5 x6 x7 x8 x9 x10 x11 x12 x13 x15 x16 x17 x18 x19 x20 x21 x22 x23 x24 x25 x26 x27 x28 x29 x30 x31 x32 x33 x34 x35 x36 x37 x38 x39 x40 x41 x42 x43 x44 x45 x46 x47 x48 x49 x50 x51 x52 x53 x54 x55 x56 x57 x58 x59 x60 x61 x62 x63 x64 x65 x66 x67 x68 x69 x70 x71 x72 x73 x74 x75 x76 x77 x78 x79 x80 x81 x82 x83 x84 x85 x86 x87 x88 x89 x90 x91 x92 x93 x94 x95 x96 x97 x98 x99 x100 x101 x102 x103 x104 x105 x106:Value) (hK:Try.f25.body=some K)
  (hO:w0.ownsRow lo 3 1 (.slice (some ⟨cb,0,none⟩) m m) m (bn (List.replicate m 0))) (hm:m≤100000)
  (hnext:∀(y0 y1 y2 y3 y4 y5 y6 y7 y8 y9 y10 y11 y12 y13 y15 y16 y17 y18 y19 y20 y21 y22 y23 y24 y25 y26 y27 y28 y29 y30 y31 y32 y33 y34 y35 y36 y37 y38 y39 y40 y41 y42 y43 y44 y45 y46 y47 y48 y49 y50 y51 y52 y53 y54 y55 y56 y57 y58 y59 y60 y61 y62 y63 y64 y65 y66 y67 y68 y69 y70 y71 y72 y73 y74 y75 y76 y77 y78 y79 y80 y81 y82 y83 y84 y85 y86 y87 y88 y89 y90 y91 y92 y93 y94 y95 y96 y97 y98 y99 y100 y101 y102 y103 y104 y105 y106:Value) (w:World),w.ownsRow lo 3 1 (.slice (some ⟨cb,0,none⟩) m m) m (bn (List.replicate m (-1)))→Upd (fun b=>b=cb) w0 w→x1=y1→x2=y2→x10=y10→x11=y11→x12=y12→rest.wp Try.prog Q ⟨#[y0,y1,y2,y3,y4,y5,y6,y7,y8,y9,y10,y11,y12,y13,.slice (some ⟨cb,0,none⟩) m m,y15,y16,y17,y18,y19,y20,y21,y22,y23,y24,y25,y26,y27,y28,y29,y30,y31,y32,y33,y34,y35,y36,y37,y38,y39,y40,y41,y42,y43,y44,y45,y46,y47,y48,y49,y50,y51,y52,y53,y54,y55,y56,y57,y58,y59,y60,y61,y62,y63,y64,y65,y66,y67,y68,y69,y70,y71,y72,y73,y74,y75,y76,y77,y78,y79,y80,y81,y82,y83,y84,y85,y86,y87,y88,y89,y90,y91,y92,y93,y94,y95,y96,y97,y98,y99,y100,y101,y102,y103,y104,y105,y106],[]⟩ w) :
  (Code.seq (iM K 12) rest).wp Try.prog Q ⟨#[x0,x1,x2,x3,x4,x5,x6,x7,x8,x9,x10,x11,x12,x13,.slice (some ⟨cb,0,none⟩) m m,x15,x16,x17,x18,x19,x20,x21,x22,x23,x24,x25,x26,x27,x28,x29,x30,x31,x32,x33,x34,x35,x36,x37,x38,x39,x40,x41,x42,x43,x44,x45,x46,x47,x48,x49,x50,x51,x52,x53,x54,x55,x56,x57,x58,x59,x60,x61,x62,x63,x64,x65,x66,x67,x68,x69,x70,x71,x72,x73,x74,x75,x76,x77,x78,x79,x80,x81,x82,x83,x84,x85,x86,x87,x88,x89,x90,x91,x92,x93,x94,x95,x96,x97,x98,x99,x100,x101,x102,x103,x104,x105,x106],[]⟩ w0:=by
 injection hK with hK
 subst hK
 have HN:=ah hnext
 have HO:=ah hO
 clear hO hnext
 simp only[iM]
 go_wp2_with fail
 go_loopg [15] m (fun gk v15 wr=>∃(k:Nat),k+gk=m∧v15=.int .i64 (k:Int)∧wr.ownsRow lo 3 1 (.slice (some ⟨cb,0,none⟩) m m) m (bn (List.replicate k (-1)++List.replicate (m - k) 0))∧Upd (fun b=>b=cb) w0 wr)
 case atStart=>exact⟨0,by omega,rfl,by simpa using HO.out,Upd.refl _ _⟩
 case round =>
  obtain⟨k,hk,rfl,hO,hU⟩:=hrel
  have HK:=ah hk
  have HO2:=ah hO
  have HU2:=ah hU
  clear hk hO hU
  by_cases hlt:¬k < m
  ·obtain rfl:k=m:=by have:=HK.out;omega
   have HO3:=ah (show wr.ownsRow lo 3 1 (.slice (some ⟨cb,0,none⟩) k k) k (bn (List.replicate k (-1))) by simpa using HO2.out)
   go_wp2_with fail
   exact HN.out _ _ _ _ _ _ _ _ _ _ _ _ _ _ _ _ _ _ _ _ _ _ _ _ _ _ _ _ _ _ _ _ _ _ _ _ _ _ _ _ _ _ _ _ _ _ _ _ _ _ _ _ _ _ _ _ _ _ _ _ _ _ _ _ _ _ _ _ _ _ _ _ _ _ _ _ _ _ _ _ _ _ _ _ _ _ _ _ _ _ _ _ _ _ _ _ _ _ _ _ _ _ _ _ _ _ wr HO3.out HU2.out rfl rfl rfl rfl rfl
  have g1:(k:Int) < (m:Int):=by omega
  have fz:wr.frozen? ⟨cb,k,none⟩=false:=HO2.out.frozenAt k
  obtain⟨u,cu⟩:∃u,wr.cell? ⟨cb,k,none⟩=some u:=by
   have h1:=HO2.out.cellAt k (by omega)
   rw[List.getElem?_eq_getElem (by have:=HO2.out.1;omega)] at h1
   exact⟨_,h1⟩
  have HO3:=ah (own_set HO2.out k (.int .i64 (-1)) (by omega))
  have HE:=ah (show(bn (List.replicate k (-1)++List.replicate (m - k) 0)).set k (.int .i64 (-1))=bn (List.replicate (k+1) (-1)++List.replicate (m - (k+1)) 0) by
   apply List.ext_getElem?
   intro j
   simp only[bn,List.getElem?_set,List.getElem?_map,List.getElem?_append,List.length_replicate,List.getElem?_replicate,List.length_map,List.length_append]
   have hk:=HK.out
   by_cases h1:k=j
   ·subst h1
    simp
    omega
   ·rw[if_neg h1]
    by_cases h2:j < k
    ·simp[h2,show j < k+1 by omega]
    ·by_cases h3:j < m
     ·simp[h2,show ¬j < k+1 by omega,show j - k < m - k by omega,show j - (k+1) < m - (k+1) by omega]
     ·simp[h2,show ¬j < k+1 by omega,show ¬j - k < m - k by omega,show ¬j - (k+1) < m - (k+1) by omega])
  have HU3:=ah (HU2.out.setCell ⟨cb,k,none⟩ (.int .i64 (-1)) (fun _=>rfl))
  go_wp2_with fail
  go_roundg (m - (k+1))
  case measure=>have:=HK.out;omega
  case rel=>exact⟨k+1,by have:=HK.out;omega,by go_num,by rw[←HE.out];exact HO3.out,HU3.out⟩
end Go.Proofs.Ytnkefclbchpafaa

/-
  The contracts of heronref06's walker; the walks of decide and choose.
-/
namespace Go.Proofs.Ytnkefclbchpafaa
set_option maxRecDepth 100000
set_option maxHeartbeats 16000000
open Go.RowKit
set_option linter.unusedVariables false
structure Tk (F:Fx) (S:Nat→Prop) (cl:Nat):Prop where
 dis:Dis F S
 ix:∀(i:Nat) (x:PN),F.l[i]?=some x→x.kind=7→0≤x.ix∧2*x.ix+1 < (cl:Int)
 sub:∀(i:Nat) (x:PN),F.l[i]?=some x→∀s∈x.subs,s < F.l.length
 nth:∀(i:Nat) (x:PN),F.l[i]?=some x→0≤x.nth∧x.nth≤1000000∧x.up < F.l.length∧x.subs.length≤1000000
 cl2:2≤cl
 clm:cl≤4000
def Con (F:Fx) (S:Nat→Prop) (cl:Nat) (fn:Nat) (n p:Nat) (c:List Int) (s s':WSt):Prop :=
 n < F.l.length→p≤F.xs.length→c.length=cl→∀(w:World) (OA:Option Addr) (oc:Nat) (CA:Option Addr) (cc:Nat),Rd F S w→WkR F w s OA oc→CapW w F OA CA c →
  Calls Try.prog fn #[.pointer (some ⟨F.wb,0,none⟩),.int .i64 (n:Int),.int .i64 (p:Int),.slice CA cl cc] w (Ans F w s' OA)
theorem WkR.lo {F:Fx} {w:World} {s:WSt} {OA:Option Addr} {oc:Nat} (h:WkR F w s OA oc):∀b,OA.map (·.block)=some b→F.base≤b:=fun b hb=>(h.out.lo hb).1
theorem WkR.mark_d {F:Fx} {S:Nat→Prop} {w:World} {s:WSt} {OA:Option Addr} {oc n p:Nat} (hd:Dis F S) (h:WkR F w s OA oc) (hn:n < F.l.length):Nx F w { s with dc:=bT s.dc n p } OA (w.setCell ⟨F.dcb n,p,none⟩ (.bool true)) OA oc:=by
 have hm:MutF F (F.dcb n):=.inr (.inr (.inr ⟨n,hn,rfl⟩))
 have hU:=(Upd.refl (fun b=>b=F.dcb n) w).setCell ⟨F.dcb n,p,none⟩ (.bool true) (fun _=>rfl)
 have hwk:F.wb≠F.dcb n:=Cells.ne_ h.wk (h.dc n hn) (by decide)
 refine⟨⟨h.wk.upd hU hwk,fun i hi=>(h.bg i hi).upd hU (hd.bd i n hi hn),fun i hi=>?_,h.en.upd hU (fun e=>hd.de n hn e.symm),h.out.upd hU (fun b hb e=>by have:=hd.lt _ hm;omega),h.cnt⟩,hU.mono (fun b _ e=>.inl (by subst e;exact hm)),.inl rfl⟩
 by_cases e:i=n
 ·subst e
  have:=(h.dc i hi).aW p (.bool true)
  rwa [rowC_set (b:=s.dc i) (b':=bT s.dc i p i) (by simp[bT]) (fun q hq=>by simp[bT,hq])] at this
 ·have:bT s.dc n p i=s.dc i:=by funext q;simp[bT,e]
  show Cells _ _ _ (dQ (bT s.dc n p i) _)
  rw[this]
  exact(h.dc i hi).upd hU (fun k=>e (hd.dd i n hi hn k))
theorem WkR.jw {F:Fx} {S:Nat→Prop} {w:World} {s:WSt} {OA:Option Addr} {oc n p:Nat} (hd:Dis F S) (h:WkR F w s OA oc) (hn:n < F.l.length):Nx F w { s with bg:=bT s.bg n p } OA (w.setCell ⟨F.bgb n,p,none⟩ (.bool true)) OA oc:=by
 have hm:MutF F (F.bgb n):=.inr (.inr (.inl ⟨n,hn,rfl⟩))
 have hU:=(Upd.refl (fun b=>b=F.bgb n) w).setCell ⟨F.bgb n,p,none⟩ (.bool true) (fun _=>rfl)
 have hwk:F.wb≠F.bgb n:=Cells.ne_ h.wk (h.bg n hn) (by decide)
 refine⟨⟨h.wk.upd hU hwk,fun i hi=>?_,fun i hi=>(h.dc i hi).upd hU (fun e=>hd.bd n i hn hi e.symm),h.en.upd hU (fun e=>hd.be n hn e.symm),h.out.upd hU (fun b hb e=>by have:=hd.lt _ hm;omega),h.cnt⟩,hU.mono (fun b _ e=>.inl (by subst e;exact hm)),.inl rfl⟩
 by_cases e:i=n
 ·subst e
  have:=(h.bg i hi).aW p (.bool true)
  rwa [rowC_set (b:=s.bg i) (b':=bT s.bg i p i) (by simp[bT]) (fun q hq=>by simp[bT,hq])] at this
 ·have:bT s.bg n p i=s.bg i:=by funext q;simp[bT,e]
  show Cells _ _ _ (dQ (bT s.bg n p i) _)
  rw[this]
  exact(h.bg i hi).upd hU (fun k=>e (hd.bb i n hi hn k))
theorem decide_met {F:Fx} {S:Nat→Prop} {cl n p:Nat} {c:List Int} {s:WSt} (hk:Tk F S cl) (hb:s.dc n p=true):Con F S cl 68 n p c s s:=by
 intro hn hp hc w OA oc CA cc hR hW hC
 have c4:=hW.wk.ak (i:=0+4) rfl
 have d4:=hR.dk n hn
 have e4:w.cell? ⟨F.dcb n,p,none⟩=some (.bool true):=by rw[←hb];exact(hW.dc n hn).ak (dM _ (by omega))
 obtain⟨M,hM⟩:∃M,F.xs.length+1=M:=⟨_,rfl⟩
 rw[hM] at d4
 have g1:(n:Int) < (F.l.length:Int):=by omega
 have g2:(p:Int) < (M:Int):=by omega
 have HW:=ah hW
 clear hW hM hC hR
 go_enter Try.func68,Try.ntmps68
 go_wp2_with fail
 try simp only[Exit.inBlock,Exit.then]
 refine bodyPost_ret (results_none rfl _ _ _) rfl ?_
 exact⟨rfl,OA,oc,.aM HW.out (Upd.refl _ _)⟩
theorem decide_go {F:Fx} {S:Nat→Prop} {cl n p:Nat} {c:List Int} {s s':WSt} (hk:Tk F S cl) (hb:s.dc n p=false) (hcon:Con F S cl 67 n p c { s with dc:=bT s.dc n p } s'):Con F S cl 68 n p c s s':=by
 intro hn hp hc w OA oc CA cc hR hW hC
 have c4:=hW.wk.ak (i:=0+4) rfl
 have d4:=hR.dk n hn
 have e4:w.cell? ⟨F.dcb n,p,none⟩=some (.bool false):=by rw[←hb];exact(hW.dc n hn).ak (dM _ (by omega))
 have f4:=(hW.dc n hn).frozen p
 have hN:=hW.mark_d (p:=p) hk.dis hn
 have HN:=ah hN
 have HC:=ah (hcon hn hp hc _ OA oc CA cc (hR.mut hk.dis hW.lo hN.upd) hN.wk (hC.nx hN))
 obtain⟨M,hM⟩:∃M,F.xs.length+1=M:=⟨_,rfl⟩
 rw[hM] at d4
 have g1:(n:Int) < (F.l.length:Int):=by omega
 have g2:(p:Int) < (M:Int):=by omega
 clear hW hM hC hR hN hcon
 go_enter Try.func68,Try.ntmps68
 go_wp2_with (go_at_call 67;refine HC.out.mono ?_;rintro e w3 ⟨rfl,OA',oc',hX⟩)
 go_end0
 exact⟨rfl,OA',oc',HN.out.trans hX⟩
theorem aS {w:World} {S:Nat→Prop} {tg n:Nat} {x:PN} (h:NodeAt w S tg n x):∃RA rc SA sc,
  w.cell? ⟨tg,n*8,none⟩=some (.int .i64 x.kind)∧w.cell? ⟨tg,n*8+1,none⟩=some (.int .i64 x.asr)∧w.cell? ⟨tg,n*8+2,none⟩=some (.int .i64 x.ix)∧w.cell? ⟨tg,n*8+3,none⟩=some (.slice RA x.rs.length rc)∧w.cell? ⟨tg,n*8+4,none⟩=some (.slice SA x.subs.length sc) ∧
  w.cell? ⟨tg,n*8+5,none⟩=some (.bool x.lz)∧w.cell? ⟨tg,n*8+6,none⟩=some (.int .i64 x.up)∧w.cell? ⟨tg,n*8+7,none⟩=some (.int .i64 x.nth) ∧
  bO w S RA x.rs.length x.rs∧Reads w S 1 SA x.subs.length (bn (x.subs.map fun(s:Nat)=>(s:Int)))∧In64 x.asr∧In64 x.ix:=by
 obtain⟨RA,rc,SA,sc,h1,h2,h3,h4,h5⟩:=h
 exact⟨RA,rc,SA,sc,h1 0 _ rfl,h1 1 _ rfl,h1 2 _ rfl,h1 3 _ rfl,h1 4 _ rfl,h1 5 _ rfl,h1 6 _ rfl,h1 7 _ rfl,h2,h3,h4,h5⟩
theorem sub_first {w:World} {S:Nat→Prop} {SA:Option Addr} {x:PN} (h:Reads w S 1 SA x.subs.length (bn (x.subs.map fun(s:Nat)=>(s:Int)))) (h0:x.subs≠[]):∃sa,SA=some sa∧sa.block < w.heap.size∧S sa.block∧w.cell? sa=some (.int .i64 (aR x:Nat)):=by
 obtain⟨s,r,e⟩:=List.exists_cons_of_ne_nil h0
 obtain⟨ad,hA,hb,hs,hc⟩:=h.2 (by rw[e];simp)
 have c0:=hc 0 (.int .i64 (s:Int)) (by rw[e];simp[bn])
 rw[show ad.add 0=ad by simp[Addr.add]] at c0
 exact⟨ad,hA,hb,hs,by rw[c0];simp[aR,e]⟩
theorem choose_y {F:Fx} {S:Nat→Prop} {cl n p:Nat} {c:List Int} {s s1 s2:WSt} {x:PN} (hk:Tk F S cl) (hx:F.l[n]?=some x) (h0:x.subs≠[]) (hz:x.lz=true)
  (hc1:Con F S cl 65 n p c s s1) (hc2:Con F S cl 45 (aR x) p c s1 s2):Con F S cl 67 n p c s s2:=by
 intro hn hp hc w OA oc CA cc hR hW hC
 obtain⟨RA,rc,SA,sc,q0,q1,q2,q3,q4,q5,q6,q7,-,hsub,-,-⟩:=aS (hR.node n x hx)
 have HZ:=ah hz
 clear hz
 have c0:=hW.wk.ak (i:=0) rfl
 have t0:=hR.tab.ak (i:=0) rfl
 have g1:(n:Int) < (F.l.length:Int):=by omega
 have hAl:Upd Nob w (w.alloc (.cells (aD x RA rc SA sc) 119)):=(Upd.refl Nob w).alloc _
 have HX:=ah (Cells.new w 119 (aD x RA rc SA sc))
 have HR:=ah (hR.upd hAl (fun _ _=>aj))
 have HN:=ah (Nx.aM hW hAl)
 have HC:=ah (hC.nx (Nx.aM hW hAl))
 obtain⟨sa,rfl,hsb,hsS,hs0⟩:=sub_first (hsub.upd hAl (fun _ _=>aj)) h0
 have HS0:=ah hs0
 have hsl:=hk.sub n x hx (aR x) (by obtain⟨a,r,e⟩:=List.exists_cons_of_ne_nil h0;simp[aR,e])
 have hpos:0 < x.subs.length:=List.length_pos_iff.2 h0
 have hposI:(0:Int) < (x.subs.length:Int):=by omega
 have hlt:=hR.lt _ hR.stg
 have hba:=hR.base
 have hnm:¬Mut F OA w.heap.size:=fun hm=>by
  rcases hm with hm | hm
  ·have:=hk.dis.lt _ hm;omega
  ·have:=(hW.out.lo hm).2;omega
 have HNM:=ah hnm
 have HLO:=ah hW.lo
 clear hR hW hC hsub hs0 hnm
 go_enter Try.func67,Try.ntmps67
 go_upto_region 1 with fail
 change Code.wp _ _ _ _ (w.alloc (.cells (aD x RA rc (some sa) sc) 119))
 generalize w.alloc (.cells (aD x RA rc (some sa) sc) 119)=wa at *
 clear c0 t0 q0 q1 q2 q3 q4 q5 q6 q7
 have y5:=HX.out.ak (i:=0+5) (v:=.bool true) (by rw[←HZ.out];rfl)
 have y4:=HX.out.ak (i:=0+4) (v:=.slice (some sa) x.subs.length sc) rfl
 have z0:=HS0.out
 go_upto_region 3 with(go_at_call 65;refine(hc1 hn hp hc wa OA oc CA cc HR.out HN.out.wk HC.out).mono ?_;rintro e wb ⟨rfl,OA1,oc1,hX1⟩)
 have HX1:=ah hX1
 have HC1:=ah (HC.out.nx hX1)
 have HR1:=ah (HR.out.mut hk.dis HLO.out hX1.upd)
 have hY:=HX.out.upd hX1.upd HNM.out
 clear y5 y4 z0
 have y4:=hY.ak (i:=0+4) (v:=.slice (some sa) x.subs.length sc) rfl
 have z0:=(hX1.upd.cell (p:=sa) hsb (fun hm=>by
  have:=hk.dis.s _ hsS
  rcases hm with hm | hm
  ·exact this.2 hm
  ·have:=HLO.out _ hm;omega)).trans HS0.out
 clear hX1
 go_wp2_with (go_at_call 45;refine(hc2 hsl hp hc wb OA1 oc1 CA cc HR1.out HX1.out.wk HC1.out).mono ?_;rintro e wc ⟨rfl,OA2,oc2,hX2⟩)
 refine bodyPost_ret (results_none rfl _ _ _) rfl ?_
 exact⟨rfl,OA2,oc2,(HN.out.trans HX1.out).trans hX2⟩
theorem choose_n {F:Fx} {S:Nat→Prop} {cl n p:Nat} {c:List Int} {s s1 s2:WSt} {x:PN} (hk:Tk F S cl) (hx:F.l[n]?=some x) (h0:x.subs≠[]) (hz:x.lz=false)
  (hc1:Con F S cl 45 (aR x) p c s s1) (hc2:Con F S cl 65 n p c s1 s2):Con F S cl 67 n p c s s2:=by
 intro hn hp hc w OA oc CA cc hR hW hC
 obtain⟨RA,rc,SA,sc,q0,q1,q2,q3,q4,q5,q6,q7,-,hsub,-,-⟩:=aS (hR.node n x hx)
 have HZ:=ah hz
 clear hz
 have c0:=hW.wk.ak (i:=0) rfl
 have t0:=hR.tab.ak (i:=0) rfl
 have g1:(n:Int) < (F.l.length:Int):=by omega
 have hAl:Upd Nob w (w.alloc (.cells (aD x RA rc SA sc) 119)):=(Upd.refl Nob w).alloc _
 have HX:=ah (Cells.new w 119 (aD x RA rc SA sc))
 have HR:=ah (hR.upd hAl (fun _ _=>aj))
 have HN:=ah (Nx.aM hW hAl)
 have HC:=ah (hC.nx (Nx.aM hW hAl))
 obtain⟨sa,rfl,hsb,hsS,hs0⟩:=sub_first (hsub.upd hAl (fun _ _=>aj)) h0
 have HS0:=ah hs0
 have hsl:=hk.sub n x hx (aR x) (by obtain⟨a,r,e⟩:=List.exists_cons_of_ne_nil h0;simp[aR,e])
 have hpos:0 < x.subs.length:=List.length_pos_iff.2 h0
 have hposI:(0:Int) < (x.subs.length:Int):=by omega
 have hlt:=hR.lt _ hR.stg
 have hba:=hR.base
 have hnm:¬Mut F OA w.heap.size:=fun hm=>by
  rcases hm with hm | hm
  ·have:=hk.dis.lt _ hm;omega
  ·have:=(hW.out.lo hm).2;omega
 have HNM:=ah hnm
 have HLO:=ah hW.lo
 clear hR hW hC hsub hs0 hnm
 go_enter Try.func67,Try.ntmps67
 go_upto_region 1 with fail
 change Code.wp _ _ _ _ (w.alloc (.cells (aD x RA rc (some sa) sc) 119))
 generalize w.alloc (.cells (aD x RA rc (some sa) sc) 119)=wa at *
 clear c0 t0 q0 q1 q2 q3 q4 q5 q6 q7
 have y5:=HX.out.ak (i:=0+5) (v:=.bool false) (by rw[←HZ.out];rfl)
 have y4:=HX.out.ak (i:=0+4) (v:=.slice (some sa) x.subs.length sc) rfl
 have z0:=HS0.out
 go_upto_region 5 with(go_at_call 45;refine(hc1 hsl hp hc wa OA oc CA cc HR.out HN.out.wk HC.out).mono ?_;rintro e wb ⟨rfl,OA1,oc1,hX1⟩)
 have HX1:=ah hX1
 have HC1:=ah (HC.out.nx hX1)
 have HR1:=ah (HR.out.mut hk.dis HLO.out hX1.upd)
 have hY:=HX.out.upd hX1.upd HNM.out
 clear y5 y4 z0
 have y4:=hY.ak (i:=0+4) (v:=.slice (some sa) x.subs.length sc) rfl
 have z0:=(hX1.upd.cell (p:=sa) hsb (fun hm=>by
  have:=hk.dis.s _ hsS
  rcases hm with hm | hm
  ·exact this.2 hm
  ·have:=HLO.out _ hm;omega)).trans HS0.out
 clear hX1
 go_wp2_with (go_at_call 65;refine(hc2 hn hp hc wb OA1 oc1 CA cc HR1.out HX1.out.wk HC1.out).mono ?_;rintro e wc ⟨rfl,OA2,oc2,hX2⟩)
 go_end0
 exact⟨rfl,OA2,oc2,(HN.out.trans HX1.out).trans hX2⟩
end Go.Proofs.Ytnkefclbchpafaa

/-
  The row of nodes, made, as it is read.
-/
namespace Go.Proofs.Ytnkefclbchpafaa
open Go.RowKit
set_option linter.unusedVariables false
theorem dZ.node {w:World} {base tb g tc:Nat} {S D:Nat→Prop} {l:List PN} (h:dZ w base tb S D l (some ⟨g,0,none⟩) tc) {i:Nat} {x:PN} (hx:l[i]?=some x):NodeAt w (fun b=>b < w.heap.size) g i x:=by
 obtain⟨qs,hq,ho,hn⟩:=h.row
 have hi:=(List.getElem?_eq_some_iff.1 hx).1
 obtain⟨q,hqi⟩:∃q,qs[i]?=some q:=⟨_,List.getElem?_eq_getElem (by omega)⟩
 obtain⟨⟨h1,h2,h3,h4⟩,-⟩:=hn i x q hx hqi
 obtain⟨cur,hc,ht⟩:=aK ho (g:=g) rfl
 refine⟨q.1.1,q.1.2,q.2.1,q.2.2,fun j v hv=>?_,h1.lower_,Reads.weaken (Reads.eU h2) (fun b hb=>?_),h3,h4⟩
 ·have hj:j < 8:=by
   have:=(Array.getElem?_eq_some_iff.1 hv).1
   exact this
  have hf:=flatN_at l qs i x q hx hqi j hj
  rw[←ht,List.getElem?_take,if_pos (by omega)] at hf
  refine hc.ak ?_
  rw[←Array.getElem?_toList,hf]
  rw[←Array.getElem?_toList] at hv
  exact hv
 ·obtain⟨cur,hc,-⟩:=aK h2 hb
  exact hc.lt
end Go.Proofs.Ytnkefclbchpafaa
