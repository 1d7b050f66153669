/-
  Par, SpPlain, SpSet, put together.
-/
import Derived.Test.YtnkefclbchpafaaZ35ParS
import Derived.Test.YtnkefclbchpafaaZ09VisR

/-
  The walk of gY.Parses. Printed by tools/mkPar.py.
-/
namespace Go.Proofs.Ytnkefclbchpafaa
set_option maxRecDepth 100000
set_option maxHeartbeats 16000000
open Go.RowKit
set_option linter.unusedVariables false
theorem dB.low_ {w:World} {S:Nat→Prop} {A:Option Addr} {n:Nat} {xs:List Int} (h:dB w S A n xs):dB w (fun b=>b < w.heap.size) A n xs :=
 ⟨⟨h.r.1,fun hn=>by obtain⟨ad,e,hb,hs,hc⟩:=h.r.2 hn;exact⟨ad,e,hb,hb,hc⟩⟩,h.i,h.n⟩
theorem OutR.low {w:World} {base base':Nat} {OA:Option Addr} {oc:Nat} {out:List (Nat × List Int)} (h:OutR w base OA oc out) (hb:base'≤base):OutR w base' OA oc out:=by
 obtain⟨gs,h1,h2,h3⟩:=h
 exact⟨gs,h1,kS h2 (fun g hg=>Nat.le_trans hb (ji h2 hg)),fun i p c g k hi hg=>kS (h3 i p c g k hi hg) (fun g' hg'=>Nat.le_trans hb (ji (h3 i p c g k hi hg) hg'))⟩
theorem wpList_make_marks (w:World) {ops:Array Oper} {rest:List Oper} {o:Oper} {a:Act} {Q:Exit→Act→World→Prop} (hg:o.guard=none) (l:Operand) (hop:o.op=Op.makeSlice 77 l l)
  (C:Int) (n:Nat) (hl:a.eval l=.int .i64 C) (hC:C=(n:Int)) (hn:n≤100000)
  (hK:wpList Try.prog ops Q rest (a.put o.dst (.slice (some ⟨w.heap.size,0,none⟩) n n)) (w.alloc (.cells (dQ noMark n) 4))):wpList Try.prog ops Q (o::rest) a w:=by
 refine wpList_plain hg fun K hK'=>?_
 obtain⟨i0,hi0,hz0,hz1,hz2⟩:=info_parts pinfo_bool
 subst hC
 have hrun:=run_make (P:=Try.prog) w 77 4 i0 (.bool false) Try.underlying77 hi0 hz0 .i64 .i64 (n:Int) (n:Int) (by omega) (by omega) (by rw[hz2];omega) (by omega)
 rw[Int.toNat_natCast,hz1,made_marks] at hrun
 unfold Oper.wp
 simp[execOp,hop,hl,hrun,Result.andThen]
 exact hK' _ _ hK
structure ParOk (t:Tree) (xs:List Int) (a:Int) (w w':World) (OA:Option Addr) (oc:Nat) (out:List (Nat × List Int)):Prop where
 sound:d9 t
 size:szT t≤2000
 a0:0≤a
 a1:a≤xs.length
 short:xs.length≤64
 mem:OutR w' w.heap.size OA oc out
 few:out.length≤xs.length+1
 run:∃s',Run (envX xs) (bJ t []).1 a.toNat (.B (bJ t []).2 a.toNat (List.replicate (2*dF t+2).toNat (-1))) st0 s'∧s'.out=out
def ParYes (t:Tree) (xs:List Int) (a:Int):Prop:=xs.length≤64∧d9 t∧szT t≤2000∧0≤a∧a≤xs.length
def ParAns (t:Tree) (xs:List Int) (a:Int) (w:World) (e:Ending) (w':World):Prop :=
 ∃(er:Int) (OA:Option Addr) (oc:Nat) (out:List (Nat × List Int)),e=.returned (.tuple #[.slice OA out.length oc,.int .i64 er])∧Upd Nob w w'∧(er=0→ParOk t xs a w w' OA oc out)∧(ParYes t xs a→er=0)
theorem par_tail (P:Ending→World→Prop) (K:Code) (w:World) (F:Fx) (s':WSt) (n p cb m wb:Nat) (x0 x1 x3 x4 x5 x6 x7 x8 x9 x10 x13 x15 x16 x17 x18 x19 x20 x21 x22 x23 x24 x25 x26 x27 x28 x29 x30 x31 x32 x33 x34 x35 x36 x37 x38 x39 x40 x41 x42 x43 x44 x45 x46 x47 x48 x49 x50 x51 x52 x53 x54 x55 x56 x57 x58 x59 x60 x61 x62 x63 x64 x65 x66 x67 x68 x69 x70 x71 x72 x73 x74 x75 x76 x77 x78 x79 x80 x81 x82 x83 x84 x85 x86 x87 x88 x89 x90 x91 x92 x93 x94 x95 x96 x97 x98 x99 x100 x101 x102 x103 x104 x105 x106:Value) (hK:Try.f25.body=some K) (hwb:F.wb=wb)
  (hC:Calls Try.prog 45 #[.pointer (some ⟨wb,0,none⟩),.int .i64 (n:Int),.int .i64 (p:Int),.slice (some ⟨cb,0,none⟩) m m] w (Ans F w s' none))
  (hP:∀(OA:Option Addr) (oc:Nat) (w':World),Nx F w s' none w' OA oc→P (.returned (.tuple #[.slice OA s'.out.length oc,.int .i64 0])) w') :
  (seqAt K 13).wp Try.prog (bodyPost Try.prog Try.f25 P) ⟨#[x0,x1,.int .i64 (p:Nat),x3,x4,x5,x6,x7,x8,x9,x10,.int .i64 (n:Nat),.pointer (some ⟨wb,0,none⟩),x13,.slice (some ⟨cb,0,none⟩) m m,x15,x16,x17,x18,x19,x20,x21,x22,x23,x24,x25,x26,x27,x28,x29,x30,x31,x32,x33,x34,x35,x36,x37,x38,x39,x40,x41,x42,x43,x44,x45,x46,x47,x48,x49,x50,x51,x52,x53,x54,x55,x56,x57,x58,x59,x60,x61,x62,x63,x64,x65,x66,x67,x68,x69,x70,x71,x72,x73,x74,x75,x76,x77,x78,x79,x80,x81,x82,x83,x84,x85,x86,x87,x88,x89,x90,x91,x92,x93,x94,x95,x96,x97,x98,x99,x100,x101,x102,x103,x104,x105,x106],[]⟩ w:=by
 injection hK with hK
 subst hK
 subst hwb
 have HC:=ah hC
 have HP:=ah hP
 clear hC hP
 simp only[seqAt]
 go_upto_region 25 with(go_at_call 45;refine HC.out.mono ?_;rintro e w1 ⟨rfl,OA,oc,hX⟩;have HX:=ah hX;clear hX)
 have c6:w1.cell? ⟨F.wb,0+6,none⟩=some (.slice OA s'.out.length oc):=HX.out.wk.wk.ak rfl
 go_wp2_with fail
 try go_ret
 exact HP.out _ _ _ HX.out
theorem oinfo_int2:(Try.prog.info? 3).map (fun i=>(i.zero,i.size,i.bytes))=some (some (.int .i64 0),1,8):=by kernel_rfl
theorem par_mid (Q:Exit→Act→World→Prop) (K rest:Code) (w:World) (xb:Nat) (t:Tree) (S:Nat→Prop) (RA SA:Option Addr) (rc sc:Nat) (x0 x1 x2 x4 x5 x6 x7 x8 x9 x10 x11 x12 x13 x14 x15 x16 x17 x18 x19 x20 x21 x22 x23 x24 x25 x26 x27 x28 x29 x30 x31 x32 x33 x34 x35 x36 x37 x38 x39 x40 x41 x42 x43 x44 x45 x46 x47 x48 x49 x50 x51 x52 x53 x54 x55 x56 x57 x58 x59 x60 x61 x62 x63 x64 x65 x66 x67 x68 x69 x70 x71 x72 x73 x74 x75 x76 x77 x78 x79 x80 x81 x82 x83 x84 x85 x86 x87 x88 x89 x90 x91 x92 x93 x94 x95 x96 x97 x98 x99 x100 x101 x102 x103 x104 x105 x106:Value) (hK:Try.f25.body=some K)
  (hC:Cells w xb 47 #[.int .i64 t.kind,.slice RA t.rs.length rc,.int .i64 t.am,.slice SA t.subs.length sc,.int .i64 t.mn,.int .i64 t.mx,.bool t.lz,.int .i64 t.ix,.string t.nm]) (hN:aB w S #[.int .i64 t.kind,.slice RA t.rs.length rc,.int .i64 t.am,.slice SA t.subs.length sc,.int .i64 t.mn,.int .i64 t.mx,.bool t.lz,.int .i64 t.ix,.string t.nm] t) (hg0:0≤dF t) (hg1:dF t≤500)
  (hnext:∀(v84 v85 v86 v87 v88:Value) (w':World) (cb m:Nat),m=(2*dF t+2).toNat→w.heap.size≤cb→w'.ownsRow w.heap.size 3 1 (.slice (some ⟨cb,0,none⟩) m m) m (bn (List.replicate m 0))→Upd Nob w w'→rest.wp Try.prog Q ⟨#[x0,x1,x2,.pointer (some ⟨xb,0,none⟩),x4,x5,x6,x7,x8,x9,x10,x11,x12,x13,.slice (some ⟨cb,0,none⟩) m m,x15,x16,x17,x18,x19,x20,x21,x22,x23,x24,x25,x26,x27,x28,x29,x30,x31,x32,x33,x34,x35,x36,x37,x38,x39,x40,x41,x42,x43,x44,x45,x46,x47,x48,x49,x50,x51,x52,x53,x54,x55,x56,x57,x58,x59,x60,x61,x62,x63,x64,x65,x66,x67,x68,x69,x70,x71,x72,x73,x74,x75,x76,x77,x78,x79,x80,x81,x82,x83,v84,v85,v86,v87,v88,x89,x90,x91,x92,x93,x94,x95,x96,x97,x98,x99,x100,x101,x102,x103,x104,x105,x106],[]⟩ w') :
  (Code.seq (iM K 11) rest).wp Try.prog Q ⟨#[x0,x1,x2,.pointer (some ⟨xb,0,none⟩),x4,x5,x6,x7,x8,x9,x10,x11,x12,x13,x14,x15,x16,x17,x18,x19,x20,x21,x22,x23,x24,x25,x26,x27,x28,x29,x30,x31,x32,x33,x34,x35,x36,x37,x38,x39,x40,x41,x42,x43,x44,x45,x46,x47,x48,x49,x50,x51,x52,x53,x54,x55,x56,x57,x58,x59,x60,x61,x62,x63,x64,x65,x66,x67,x68,x69,x70,x71,x72,x73,x74,x75,x76,x77,x78,x79,x80,x81,x82,x83,x84,x85,x86,x87,x88,x89,x90,x91,x92,x93,x94,x95,x96,x97,x98,x99,x100,x101,x102,x103,x104,x105,x106],[]⟩ w:=by
 injection hK with hK
 subst hK
 obtain⟨i0,hi0,hz0,hz1,hz2⟩:=info_parts oinfo_int2
 have HN:=ah hN
 have HT:=ah hnext
 obtain⟨e0,e1,e2,e3,e4,e5,e6,e7,e8⟩:=aI hC
 obtain⟨g,hg⟩:∃g:Nat,dF t=(g:Int):=Int.eq_ofNat_of_zero_le hg0
 have hg5:g≤500:=by omega
 have HG:=ah hg
 have vw1:IntKind.i64.wrap (2*(g:Int))=2*(g:Int):=by rw[IntKind.wrap_i64];omega
 have vw2:IntKind.i64.wrap (2*(g:Int)+2)=2*(g:Int)+2:=by rw[IntKind.wrap_i64];omega
 have hz:(madeCells (Value.int .i64 0).cells ((2*g+2)*1)).toList=bn (List.replicate (2*g+2) 0):=by
  rw[show(Value.int .i64 0).cells=#[Value.int .i64 0] from rfl,toList_madeCells_one,Nat.mul_one]
  simp[bn]
 have HZ:=ah hz
 clear hC hN hnext hg hg0 hg1 hz
 simp only[iM]
 go_wp2_with (first | (go_at_call 36;refine(greatest_go _ t _ _ _ (Nat.le_refl _) HN.out).mono ?_;rintro e w1 ⟨rfl,-,hU1⟩;rw[HG.out];have HU1:=ah hU1;have hs1:=hU1.size;clear hU1) | (at_make;refine wpList_make_full w1 rfl _ _ 28 rfl w.heap.size 3 i0 (.int .i64 0) 1 Try.underlying28 hi0 hz0 hz1 .i64 .i64 _ _ (2*g+2) rfl rfl (by omega) (by omega) (by rw[hz2];omega) (by unfold maxLen;omega) hs1 ?_;intro w2 o2 hg2;rw[HZ.out] at o2;have HO2:=ah o2;have HU2:=ah (HU1.out.grown hg2 (by simp));clear o2 hg2))
 exact HT.out _ _ _ _ _ w2 _ _ (by have:=HG.out;omega) hs1 HO2.out HU2.out
theorem par_head (P:Ending→World→Prop) (K rest:Code) (w:World) (t:Tree) (S S2:Nat→Prop) (xs:List Int) (a:Int) (RA SA TA:Option Addr) (rc sc tc:Nat) (x3 x4 x5 x6 x7 x8 x9 x10 x11 x12 x13 x14 x15 x16 x17 x18 x19 x20 x21 x22 x23 x24 x25 x26 x27 x28 x29 x30 x31 x32 x33 x34 x35 x36 x37 x38 x39 x40 x41 x42 x43 x44 x45 x46 x47 x48 x49 x50 x51 x52 x53 x54 x55 x56 x57 x58 x59 x60 x61 x62 x63 x64 x65 x66 x67 x68 x69 x70 x71 x72 x73 x74 x75 x76 x77 x78 x79 x80 x81 x82 x83 x84 x85 x86 x87 x88 x89 x90 x91 x92 x93 x94 x95 x96 x97 x98 x99 x100 x101 x102 x103 x104 x105 x106:Value) (hK:Try.f25.body=some K)
  (hN:aB w S #[.int .i64 t.kind,.slice RA t.rs.length rc,.int .i64 t.am,.slice SA t.subs.length sc,.int .i64 t.mn,.int .i64 t.mx,.bool t.lz,.int .i64 t.ix,.string t.nm] t) (hx:dB w S2 TA xs.length xs) (ha:In64 a)
  (hno:∀(er:Int) (w':World),er≠0→¬ParYes t xs a→Upd Nob w w'→P (.returned (.tuple #[.slice none 0 0,.int .i64 er])) w')
  (hnext:∀(y0 y4 y5 y6 y7 y8 y9 y13 y14 y15 y16 y17 y18 y19 y20 y21 y22 y23 y24 y25 y26 y27 y28 y29 y30 y31 y32 y33 y34 y35 y36 y37 y38 y39 y40 y41 y42 y43 y44 y45 y46 y47 y48 y49 y50 y51 y52 y53 y54 y55 y56 y57 y58 y59 y60 y61 y62 y63 y64 y65 y66 y67 y68 y69 y70 y71 y72 y73 y74 y75 y76 y77 y78 y79 y80 y81 y82 y83 y84 y85 y86 y87 y88 y89 y90 y91 y92 y93 y94 y95 y96 y97 y98 y99 y100 y101 y102 y103 y104 y105 y106:Value) (w6 w7:World) (an xb tb wb eb lc:Nat) (TL:Option Addr),a=(an:Nat)→an≤xs.length→xs.length≤64→d9 t→szT t≤2000→dZ w6 tb tb (fun b=>b < tb) Nob (bJ t []).1 TL lc→tb≤w6.heap.size→Upd Nob w w6→Upd Nob w6 w7 →
   Cells w7 xb 47 #[.int .i64 t.kind,.slice RA t.rs.length rc,.int .i64 t.am,.slice SA t.subs.length sc,.int .i64 t.mn,.int .i64 t.mx,.bool t.lz,.int .i64 t.ix,.string t.nm]→Cells w7 eb 4 (dQ noMark (xs.length+1))→Cells w7 wb 100 #[.pointer (some ⟨tb,0,none⟩),.slice TA xs.length tc,.int .i64 (an:Nat),.slice none 0 0,.slice none 0 0,.slice (some ⟨eb,0,none⟩) (xs.length+1) (xs.length+1),.slice none 0 0]→w6.heap.size≤eb→w6.heap.size≤wb→eb≠wb →
   rest.wp Try.prog (bodyPost Try.prog Try.f25 P) ⟨#[y0,.slice TA xs.length tc,.int .i64 (an:Nat),.pointer (some ⟨xb,0,none⟩),y4,y5,y6,y7,y8,y9,.pointer (some ⟨tb,0,none⟩),.int .i64 ((bJ t []).2:Nat),.pointer (some ⟨wb,0,none⟩),y13,y14,y15,y16,y17,y18,y19,y20,y21,y22,y23,y24,y25,y26,y27,y28,y29,y30,y31,y32,y33,y34,y35,y36,y37,y38,y39,y40,y41,y42,y43,y44,y45,y46,y47,y48,y49,y50,y51,y52,y53,y54,y55,y56,y57,y58,y59,y60,y61,y62,y63,y64,y65,y66,y67,y68,y69,y70,y71,y72,y73,y74,y75,y76,y77,y78,y79,y80,y81,y82,y83,y84,y85,y86,y87,y88,y89,y90,y91,y92,y93,y94,y95,y96,y97,y98,y99,y100,y101,y102,y103,y104,y105,y106],[]⟩ w7) :
  (Code.seq (iM K 0) (Code.seq (iM K 1) (Code.seq (iM K 2) (Code.seq (iM K 3) (Code.seq (iM K 4) (Code.seq (iM K 5) (Code.seq (iM K 6) (Code.seq (iM K 7) (Code.seq (iM K 8) (Code.seq (iM K 9) rest)))))))))).wp Try.prog (bodyPost Try.prog Try.f25 P) ⟨#[.agg #[.int .i64 t.kind,.slice RA t.rs.length rc,.int .i64 t.am,.slice SA t.subs.length sc,.int .i64 t.mn,.int .i64 t.mx,.bool t.lz,.int .i64 t.ix,.string t.nm],.slice TA xs.length tc,.int .i64 a,x3,x4,x5,x6,x7,x8,x9,x10,x11,x12,x13,x14,x15,x16,x17,x18,x19,x20,x21,x22,x23,x24,x25,x26,x27,x28,x29,x30,x31,x32,x33,x34,x35,x36,x37,x38,x39,x40,x41,x42,x43,x44,x45,x46,x47,x48,x49,x50,x51,x52,x53,x54,x55,x56,x57,x58,x59,x60,x61,x62,x63,x64,x65,x66,x67,x68,x69,x70,x71,x72,x73,x74,x75,x76,x77,x78,x79,x80,x81,x82,x83,x84,x85,x86,x87,x88,x89,x90,x91,x92,x93,x94,x95,x96,x97,x98,x99,x100,x101,x102,x103,x104,x105,x106],[]⟩ w:=by
 injection hK with hK
 subst hK
 have HN:=ah hN.lower
 have hxn:=hx.n
 have HX:=ah hx
 have HPn:=ah hno
 have HT:=ah hnext
 have C0:=Cells.new w 47 #[.int .i64 t.kind,.slice RA t.rs.length rc,.int .i64 t.am,.slice SA t.subs.length sc,.int .i64 t.mn,.int .i64 t.mx,.bool t.lz,.int .i64 t.ix,.string t.nm]
 have hU:=(Upd.refl Nob w).alloc (.cells #[.int .i64 t.kind,.slice RA t.rs.length rc,.int .i64 t.am,.slice SA t.subs.length sc,.int .i64 t.mn,.int .i64 t.mx,.bool t.lz,.int .i64 t.ix,.string t.nm] 47)
 obtain⟨ha0,ha1⟩:=ha
 clear hN hx hno hnext
 simp only[iM]
 go_upto_region 1 with fail
 generalize w.alloc (.cells #[.int .i64 t.kind,.slice RA t.rs.length rc,.int .i64 t.am,.slice SA t.subs.length sc,.int .i64 t.mn,.int .i64 t.mx,.bool t.lz,.int .i64 t.ix,.string t.nm] 47)=w2 at *
 obtain⟨xb,hxb⟩:∃xb,w.heap.size=xb:=⟨_,rfl⟩
 have HXB:=ah hxb
 simp only[hxb] at C0
 rw[hxb]
 have HU:=ah hU
 have HC:=ah C0
 obtain⟨e0,e1,e2,e3,e4,e5,e6,e7,e8⟩:=aI C0
 clear C0 hU hxb
 by_cases g1:64 < xs.length
 ·have g1':(64:Int) < (xs.length:Int):=by omega
  have HQ:=ah (show ¬ParYes t xs a from fun h=>by have:=h.1;omega)
  clear g1
  go_wp2_with fail
  try go_ret
  exact HPn.out _ _ (by decide) HQ.out HU.out
 have g1':¬(64:Int) < (xs.length:Int):=by omega
 go_upto_region 4 with(go_at_call 22;refine(iI t _ _ _ (HN.out.bA HU.out (fun _ _=>aj))).mono ?_;rintro e w3 ⟨r,rfl,hr,hy,hU3⟩;have HR:=ah hr;have HY:=ah hy;have HU3:=ah (HU.out.trans hU3 (fun _ _ h=>h));have HC3:=ah (HC.out.upd hU3 aj);clear hr hy hU3 e0 e1 e2 e3 e4 e5 e6 e7 e8)
 rcases r with _ | _
 ·have HQ:=ah (show ¬ParYes t xs a from fun h=>by have:=HY.out h.2.1;cases this)
  simp only[if_neg Bool.false_ne_true]
  go_wp2_with fail
  try go_ret
  exact HPn.out _ _ (by decide) HQ.out HU3.out
 simp only[if_true]
 have HS:=ah (HR.out rfl)
 clear HR HY
 obtain⟨e0,e1,e2,e3,e4,e5,e6,e7,e8⟩:=aI HC3.out
 go_upto_region 7 with(go_at_call 23;refine(size_go _ t _ _ _ (Nat.le_refl _) (okV_of _ t 1 (Nat.le_refl _) HS.out.1) (HN.out.bA HU3.out (fun _ _=>aj))).mono ?_;rintro e w4 ⟨rfl,hz,hU4⟩;have HZ:=ah hz;have HU4:=ah (HU3.out.trans hU4 (fun _ _ h=>h));have HC4:=ah (HC3.out.upd hU4 aj);clear hz hU4 e0 e1 e2 e3 e4 e5 e6 e7 e8)
 obtain⟨z,hz⟩:∃z,szT t=z:=⟨_,rfl⟩
 have HZE:=ah hz
 rw[hz]
 obtain⟨hz0,hz1⟩:=HZ.out
 rw[hz] at hz0 hz1
 clear hz
 by_cases g2:2000 < z
 ·have HQ:=ah (show ¬ParYes t xs a from fun h=>by have:=h.2.2.1;have:=HZE.out;omega)
  go_wp2_with fail
  try go_ret
  exact HPn.out _ _ (by decide) HQ.out HU4.out
 by_cases g3:a < 0
 ·have HQ:=ah (show ¬ParYes t xs a from fun h=>by have:=h.2.2.2.1;omega)
  go_wp2_with fail
  try go_ret
  exact HPn.out _ _ (by decide) HQ.out HU4.out
 by_cases g4:(xs.length:Int) < a
 ·have HQ:=ah (show ¬ParYes t xs a from fun h=>by have:=h.2.2.2.2;omega)
  go_wp2_with fail
  try go_ret
  exact HPn.out _ _ (by decide) HQ.out HU4.out
 obtain⟨an,rfl⟩:∃an:Nat,a=(an:Int):=Int.eq_ofNat_of_zero_le (by omega)
 have HSZ:=ah (show szT t≤2000 by have:=HZE.out;omega)
 have HTK:=ah (tab_ok HS.out HSZ.out)
 go_upto_region 12 with fail
 have CT:=Cells.new w4 96 #[.slice none 0 0]
 have hU5:=(Upd.refl Nob w4).alloc (.cells #[.slice none 0 0] 96)
 generalize w4.alloc (.cells #[.slice none 0 0] 96)=w5 at *
 obtain⟨tb,htb⟩:∃tb,w4.heap.size=tb:=⟨_,rfl⟩
 have HTB:=ah htb
 simp only[htb] at CT
 rw[htb]
 have hTab:dZ w5 tb tb (fun b=>b < tb) Nob [] none 0:=⟨CT,Nat.le_refl _,fun b hb=>hb,⟨[],rfl,World.ownsRow_nil _ _ _ _,fun i x q hi=>by simp at hi⟩,fun b hb=>absurd hb aj⟩
 have HN5:=ah (((HN.out.bA HU4.out (fun _ _=>aj)).bA hU5 (fun _ _=>aj)).weaken (S':=fun b=>b < tb) (fun b hb=>by have:=HU4.out.size;omega))
 have HUF:=ah (unf_any (base:=tb) (tb:=tb) (S:=fun b=>b < tb) _ t (Nat.le_refl _) HTK.out.u HTK.out.v Nob w5 [] none 0 _ hTab HN5.out (by have:=HTK.out.len;omega))
 have HU5:=ah (HU4.out.trans hU5 (fun _ _ h=>h))
 have HC5:=ah (HC4.out.upd hU5 aj)
 have HLT:=ah (And.intro HTB.out (And.intro hU5.size CT.lt))
 clear hTab CT hU5 htb
 obtain⟨e0,e1,e2,e3,e4,e5,e6,e7,e8⟩:=aI HC5.out
 go_upto_region 13 with(go_at_call 44;refine HUF.out.mono ?_;rintro e w6 ⟨rfl,TL,lc,hX⟩;have HXX:=ah hX;clear hX e0 e1 e2 e3 e4 e5 e6 e7 e8)
 have HU56:=ah (show Upd Nob w w6 from HU5.out.trans HXX.out.upd (fun b hb hf=>by
  have h1:=HU4.out.size
  have h2:=HLT.out.1
  rcases hf with rfl | hf
  ·omega
  ·simp at hf))
 have HC6:=ah (HC5.out.upd HXX.out.upd (fun hf=>by
  have h1:=HC4.out.lt
  have h2:=HLT.out.1
  rcases hf with rfl | hf
  ·omega
  ·simp at hf))
 have HTB6:=ah HXX.out.tab.size
 obtain⟨top,htop⟩:∃top,(bJ t []).2=top:=⟨_,rfl⟩
 have HTOP:=ah htop
 rw[htop]
 clear htop
 have vw:IntKind.i64.wrap ((xs.length:Int)+1)=(xs.length:Int)+1:=by rw[IntKind.wrap_i64];omega
 have CE:=Cells.new w6 4 (dQ noMark (xs.length+1))
 have hU7:=(Upd.refl Nob w6).alloc (.cells (dQ noMark (xs.length+1)) 4)
 have hs7:(w6.alloc (.cells (dQ noMark (xs.length+1)) 4)).heap.size=w6.heap.size+1:=World.size_alloc _ _
 have HS7:=ah hs7
 have HE:=ah CE
 have HU7:=ah hU7
 clear CE hU7 hs7
 go_wp2_with (at_make;refine wpList_make_marks w6 rfl _ rfl _ (xs.length+1) rfl (by omega) (by omega) ?_;try generalize w6.alloc (.cells (dQ noMark (xs.length+1)) 4)=w7 at *)
 have CW:=Cells.new w7 100 #[.pointer (some ⟨tb,0,none⟩),.slice TA xs.length tc,.int .i64 (an:Nat),.slice none 0 0,.slice none 0 0,.slice (some ⟨w6.heap.size,0,none⟩) (xs.length+1) (xs.length+1),.slice none 0 0]
 have hU8:=(Upd.refl Nob w7).alloc (.cells #[.pointer (some ⟨tb,0,none⟩),.slice TA xs.length tc,.int .i64 (an:Nat),.slice none 0 0,.slice none 0 0,.slice (some ⟨w6.heap.size,0,none⟩) (xs.length+1) (xs.length+1),.slice none 0 0] 100)
 rw[←HTOP.out]
 exact HT.out _ _ _ _ _ _ _ _ _ _ _ _ _ _ _ _ _ _ _ _ _ _ _ _ _ _ _ _ _ _ _ _ _ _ _ _ _ _ _ _ _ _ _ _ _ _ _ _ _ _ _ _ _ _ _ _ _ _ _ _ _ _ _ _ _ _ _ _ _ _ _ _ _ _ _ _ _ _ _ _ _ _ _ _ _ _ _ _ _ _ _ _ _ _ _ _ _ _ _ _ _ w6 _ an xb tb _ _ lc TL rfl (by omega) (by omega) HS.out HSZ.out HXX.out.tab (by have:=HTB6.out;omega) HU56.out (HU7.out.trans hU8 (fun _ _ h=>h)) ((HC6.out.upd HU7.out aj).upd hU8 aj) (HE.out.upd hU8 aj) CW (Nat.le_refl _) (by have:=HS7.out;omega) (by have:=HS7.out;omega)
theorem parses_any (t:Tree) (w:World) (S S2:Nat→Prop) (cs:Array Value) (xs:List Int) (TA:Option Addr) (tc:Nat) (a:Int) (h1:aB w S cs t) (hx:dB w S2 TA xs.length xs) (ha:In64 a) :
  Calls Try.prog 25 #[.agg cs,.slice TA xs.length tc,.int .i64 a] w (ParAns t xs a w):=by
 obtain⟨RA,rc,SA,sc,rfl,-⟩:=h1.top
 unfold au at h1 ⊢
 generalize hP:ParAns t xs a w=P
 go_enter Try.func25,Try.ntmps25
 refine par_head P _ _ w t S S2 xs a RA SA TA rc sc tc _ _ _ _ _ _ _ _ _ _ _ _ _ _ _ _ _ _ _ _ _ _ _ _ _ _ _ _ _ _ _ _ _ _ _ _ _ _ _ _ _ _ _ _ _ _ _ _ _ _ _ _ _ _ _ _ _ _ _ _ _ _ _ _ _ _ _ _ _ _ _ _ _ _ _ _ _ _ _ _ _ _ _ _ _ _ _ _ _ _ _ _ _ _ _ _ _ _ _ _ _ _ _ _ rfl h1 hx ha ?_ ?_
 ·intro er w' h0 hn hU
  rw[←hP]
  exact⟨er,none,0,[],rfl,hU,fun h=>absurd h h0,fun h=>absurd h hn⟩
 intro y0 y4 y5 y6 y7 y8 y9 y13 y14 y15 y16 y17 y18 y19 y20 y21 y22 y23 y24 y25 y26 y27 y28 y29 y30 y31 y32 y33 y34 y35 y36 y37 y38 y39 y40 y41 y42 y43 y44 y45 y46 y47 y48 y49 y50 y51 y52 y53 y54 y55 y56 y57 y58 y59 y60 y61 y62 y63 y64 y65 y66 y67 y68 y69 y70 y71 y72 y73 y74 y75 y76 y77 y78 y79 y80 y81 y82 y83 y84 y85 y86 y87 y88 y89 y90 y91 y92 y93 y94 y95 y96 y97 y98 y99 y100 y101 y102 y103 y104 y105 y106 w6 w7 an xb tb wb eb lc TL han hal h64 hso hsz hT htb6 hU06 hU67 hC7 hE7 hW7 heb hwb hne
 subst han
 have hok:=tab_ok hso hsz
 have hlp:=hok.lt
 have hlen:=hok.len
 obtain⟨qs,hq1,hq2,hq3⟩:=hT.row
 obtain⟨tg,rfl⟩:=own_head hq2 (by omega)
 clear hq1 hq2 hq3 qs
 refine par_loop1 _ _ _ w7 wb tb xs.length tc (bJ t []).1.length lc TA (some ⟨tg,0,none⟩) _ _ _ _ _ _ _ _ _ _ _ _ _ _ _ _ _ _ _ _ _ _ _ _ _ _ _ _ _ _ _ _ _ _ _ _ _ _ _ _ _ _ _ _ _ _ _ _ _ _ _ _ _ _ _ _ _ _ _ _ _ _ _ _ _ _ _ _ _ _ _ _ _ _ _ _ _ _ _ _ _ _ _ _ _ _ _ _ _ _ _ _ _ _ _ _ _ _ _ _ _ _ _ _ _ _ _ _ _ rfl (hT.tab.upd hU67 aj) hW7 (by omega) (by omega) ?_
 intro z0 z2 z3 z4 z5 z6 z7 z8 z9 z11 z13 z14 z15 z16 z17 z18 z19 z20 z21 z22 z23 z24 z25 z26 z27 z28 z29 z30 z31 z32 z33 z34 z35 z36 z37 z38 z39 z40 z41 z42 z43 z44 z45 z46 z47 z48 z49 z50 z51 z52 z53 z54 z55 z56 z57 z58 z59 z60 z61 z62 z63 z64 z65 z66 z67 z68 z69 z70 z71 z72 z73 z74 z75 z76 z77 z78 z79 z80 z81 z82 z83 z84 z85 z86 z87 z88 z89 z90 z91 z92 z93 z94 z95 z96 z97 z98 z99 z100 z101 z102 z103 z104 z105 z106 w8 BA DA bc dc bgb dcb hM e0 e2 e3 e11
 subst e2 e3 e11
 have hx7:=hM.upd
 have hxw:xb≠wb:=Cells.ne_ hC7 hW7 (by decide)
 have hU68:Upd Nob w6 w8:=hU67.trans hM.upd (fun b hb e=>by omega)
 have hU08:Upd Nob w w8:=hU06.trans hU68 (fun _ _ h=>h)
 refine par_mid _ _ _ w8 xb t S RA SA rc sc _ _ _ _ _ _ _ _ _ _ _ _ _ _ _ _ _ _ _ _ _ _ _ _ _ _ _ _ _ _ _ _ _ _ _ _ _ _ _ _ _ _ _ _ _ _ _ _ _ _ _ _ _ _ _ _ _ _ _ _ _ _ _ _ _ _ _ _ _ _ _ _ _ _ _ _ _ _ _ _ _ _ _ _ _ _ _ _ _ _ _ _ _ _ _ _ _ _ _ _ _ _ _ _ _ _ rfl (hC7.upd hM.upd hxw) (h1.bA hU08 (fun _ _=>aj)) hok.g0 hok.g1 ?_
 intro v84 v85 v86 v87 v88 w9 cb m hm hcb hO9 hU89
 have hg0:=hok.g0
 have hg1:=hok.g1
 refine par_loop2 _ _ _ w9 cb m w8.heap.size _ _ _ _ _ _ _ _ _ _ _ _ _ _ _ _ _ _ _ _ _ _ _ _ _ _ _ _ _ _ _ _ _ _ _ _ _ _ _ _ _ _ _ _ _ _ _ _ _ _ _ _ _ _ _ _ _ _ _ _ _ _ _ _ _ _ _ _ _ _ _ _ _ _ _ _ _ _ _ _ _ _ _ _ _ _ _ _ _ _ _ _ _ _ _ _ _ _ _ _ _ _ _ _ _ _ rfl hO9 (by omega) ?_
 intro u0 u1 u2 u3 u4 u5 u6 u7 u8 u9 u10 u11 u12 u13 u15 u16 u17 u18 u19 u20 u21 u22 u23 u24 u25 u26 u27 u28 u29 u30 u31 u32 u33 u34 u35 u36 u37 u38 u39 u40 u41 u42 u43 u44 u45 u46 u47 u48 u49 u50 u51 u52 u53 u54 u55 u56 u57 u58 u59 u60 u61 u62 u63 u64 u65 u66 u67 u68 u69 u70 u71 u72 u73 u74 u75 u76 u77 u78 u79 u80 u81 u82 u83 u84 u85 u86 u87 u88 u89 u90 u91 u92 u93 u94 u95 u96 u97 u98 u99 u100 u101 u102 u103 u104 u105 u106 w10 hO10 hU9 e1 e2 e10 e11 e12
 subst e2 e11 e12
 have hU810:Upd Nob w8 w10:=hU89.trans hU9 (fun b hb e=>by omega)
 obtain⟨F,S',f1,f2,f3,f4,f5,hRd,hWk,hTk,hmn,hml⟩:=par_ready hT hok (hx.low_.upd hU06 (fun _ _=>aj) |>.low_) h64 hE7 heb hwb hne hU67 hM hU810
 obtain⟨s',hrun⟩:=par_run hok xs hal an (List.replicate (2*dF t+2).toNat (-1))
 have hcon:Con F S' (2*dF t+2).toNat 45 (bJ t []).2 an (List.replicate (2*dF t+2).toNat (-1)) st0 s':=run_con (E:=envX xs) (k:=.B (bJ t []).2 an (List.replicate (2*dF t+2).toNat (-1))) (s:=st0) (s':=s') hTk (fun rs p=>by rw[f4];rfl) (fun b p=>by rw[f4];rfl) (at_:=an) f5.symm (by rw[f3];exact hrun)
 have hcap:CapW w10 F none (some ⟨cb,0,none⟩) (List.replicate (2*dF t+2).toNat (-1)):=by
  have hr:=Reads.eU hO10
  unfold CapW
  rw[List.length_replicate,←hm]
  exact hr.weaken (fun b hb=>⟨hmn b (by simp[Value.ownBlock] at hb;omega),by simp⟩)
 have hC:=hcon (by rw[f3];exact hlp) (by rw[f4];exact hal) (by simp) w10 none 0 (some ⟨cb,0,none⟩) m hRd hWk hcap
 rw[f1,←hm] at hC
 refine par_tail P _ w10 F s' (bJ t []).2 an cb m wb _ _ _ _ _ _ _ _ _ _ _ _ _ _ _ _ _ _ _ _ _ _ _ _ _ _ _ _ _ _ _ _ _ _ _ _ _ _ _ _ _ _ _ _ _ _ _ _ _ _ _ _ _ _ _ _ _ _ _ _ _ _ _ _ _ _ _ _ _ _ _ _ _ _ _ _ _ _ _ _ _ _ _ _ _ _ _ _ _ _ _ _ _ _ _ _ _ _ _ _ _ _ _ rfl f1 hC ?_
 intro OA oc w' hX
 rw[←hP]
 have hU10:Upd Nob w w10:=hU08.trans hU810 (fun _ _ h=>h)
 refine⟨0,OA,oc,s'.out,rfl,hU10.trans hX.upd (fun b hb hm=>?_),fun _=>⟨hso,hsz,by omega,by omega,h64,hX.wk.out.low (by rw[f2];exact hU10.size),?_,s',by rw[Int.toNat_natCast];exact hrun,rfl⟩,fun _=>rfl⟩
 ·have h6:=hU06.size
  rcases hm with hm | hm
  ·have:=hml b hm;omega
  ·cases hm
 ·rw[hX.wk.cnt]
  have:=cntE_le (F.xs.length+1) s'.en
  rw[f4] at this
  rw[f4]
  exact this
end Go.Proofs.Ytnkefclbchpafaa

/-
  The plain law of a set of small numbers: what stands in 'at' and in the list (no program in sight).
-/
namespace Go.Proofs.Ytnkefclbchpafaa
set_option linter.unusedVariables false
structure iO (N:Nat) (ats L:List Nat):Prop where
 len:ats.length=N
 pos:∀k i,L[k]?=some i→i < N∧ats[i]?=some k
theorem iO.empty (N:Nat):iO N (List.replicate N 0) []:=⟨by simp,fun k i h=>by simp at h⟩
theorem iO.cleared {N:Nat} {ats L:List Nat} (h:iO N ats L):iO N ats []:=⟨h.len,fun k i h=>by simp at h⟩
theorem iO.mem {N:Nat} {ats L:List Nat} (h:iO N ats L) {i k:Nat} (hk:ats[i]?=some k):i∈L↔L[k]?=some i:=by
 constructor
 ·intro hm
  obtain⟨j,hj,e⟩:=List.getElem_of_mem hm
  have hj':L[j]?=some i:=by rw[List.getElem?_eq_getElem hj,e]
  have:=(h.pos j i hj').2
  rw[hk] at this
  injection this with this
  rw[this];exact hj'
 ·intro hk'
  exact List.mem_of_getElem? hk'
theorem iO.lt {N:Nat} {ats L:List Nat} (h:iO N ats L) {i:Nat} (hi:i∈L):i < N:=by
 obtain⟨j,hj,e⟩:=List.getElem_of_mem hi
 exact(h.pos j i (by rw[List.getElem?_eq_getElem hj,e])).1
theorem iO.add {N:Nat} {ats L:List Nat} (h:iO N ats L) {i:Nat} (hi:i < N) (hn:i ∉ L):iO N (ats.set i L.length) (L++[i]):=by
 refine⟨by simpa using h.len,fun k j hk=>?_⟩
 rcases Nat.lt_trichotomy k L.length with hlt | rfl | hgt
 ·rw[List.getElem?_append_left hlt] at hk
  obtain⟨hj,ha⟩:=h.pos k j hk
  have hne:i≠j:=by rintro rfl;exact hn (List.mem_of_getElem? hk)
  exact⟨hj,by rw[List.getElem?_set_ne hne];exact ha⟩
 ·rw[List.getElem?_append_right (Nat.le_refl _)] at hk
  simp at hk
  subst hk
  exact⟨hi,by rw[List.getElem?_set_self (by rw[h.len];exact hi)]⟩
 ·rw[List.getElem?_eq_none (by simp;omega)] at hk
  cases hk
theorem nodup_le:∀(N:Nat) (L:List Nat),L.Nodup→(∀i∈L,i < N)→L.length≤N
 | 0,L,_,h=>by
  cases L with
  | nil=>simp
  | cons x r=>exact absurd (h x (by simp)) (by omega)
 | N+1,L,hd,h=>by
  by_cases hm:N∈L
  ·have:=nodup_le N (L.erase N) (hd.erase N) (fun i hi=>by
    have h1:=(List.Nodup.mem_erase_iff hd).1 hi
    have:=h i h1.2
    have:=h1.1
    omega)
   rw[List.length_erase_of_mem hm] at this
   omega
  ·have:=nodup_le N L hd (fun i hi=>by
    have:=h i hi
    have:i≠N:=by rintro rfl;exact hm hi
    omega)
   omega
theorem iO.nodup {N:Nat} {ats L:List Nat} (h:iO N ats L):L.Nodup:=by
 refine List.pairwise_iff_getElem.2 fun i j hi hj hij e=>?_
 have a:=(h.pos i _ (List.getElem?_eq_getElem hi)).2
 have b:=(h.pos j _ (List.getElem?_eq_getElem hj)).2
 rw[e,b] at a
 injection a with a
 omega
theorem iO.length_le {N:Nat} {ats L:List Nat} (h:iO N ats L):L.length≤N:=nodup_le N L h.nodup (fun i hi=>h.lt hi)
end Go.Proofs.Ytnkefclbchpafaa

/-
  The walks of sparse.Set.
-/
namespace Go.Proofs.Ytnkefclbchpafaa
set_option maxRecDepth 100000
set_option maxHeartbeats 16000000
open Go.RowKit
set_option linter.unusedVariables false
theorem own_none {w:World} {base e n size:Nat} {A:Option Addr} {c:Nat} {xs:List Value} (h:w.ownsRow base e size (.slice A n c) n xs):w.ownsRow base e size (.slice A 0 c) 0 []:=by
 rcases h.2 with⟨h',_⟩ | ⟨g',cap',cur,h',hb,hg,hnc,hcm,hcs,ht⟩
 ·injection h' with h1 h2 h3
  subst h1;subst h3
  exact⟨by simp,.inl ⟨rfl,rfl⟩⟩
 ·injection h' with h1 h2 h3
  subst h1;subst h3
  exact⟨by simp,.inr ⟨g',c,cur,rfl,hb,hg,Nat.zero_le _,hcm,hcs,by simp⟩⟩
def ints (L:List Nat):List Value:=L.map fun(i:Nat)=>Value.int .i64 (i:Int)
theorem ints_at {L:List Nat} {k i:Nat} (h:L[k]?=some i):(ints L)[k]?=some (.int .i64 (i:Int)):=by simp[ints,h]
structure SetR (w:World) (base b g N:Nat) (A:Option Addr) (c:Nat) (ats L:List Nat):Prop where
 blk:Cells w b 105 #[.slice A L.length c,.slice (some ⟨g,0,none⟩) N N]
 own:w.ownsRow base 3 1 (.slice A L.length c) L.length (ints L)
 at_:w.ownsRow base 3 1 (.slice (some ⟨g,0,none⟩) N N) N (ints ats)
 apart:(Value.slice A L.length c).ownBlock≠some g
 low:base≤b
 ok:iO N ats L
theorem SetR.upd {F:Nat→Prop} {w w':World} {base b g N:Nat} {A:Option Addr} {c:Nat} {ats L:List Nat} (h:SetR w base b g N A c ats L) (hU:Upd F w w') (hb:¬F b) (hg:¬F g) (hA:∀k,(Value.slice A L.length c).ownBlock=some k→¬F k):SetR w' base b g N A c ats L :=
 ⟨h.blk.upd hU hb,aJ h.own hU hA,aJ h.at_ hU (by intro k hk;simp[Value.ownBlock] at hk;subst hk;exact hg),h.apart,h.low,h.ok⟩
theorem made_ints (n:Nat):(madeCells #[Value.int .i64 0] n).toList=ints (List.replicate n 0):=by
 rw[toList_madeCells_one]
 simp[ints]
def bound (n:Int):Nat:=min n.toNat 1048576
def K20:Nat:=1048576
def SetNewPost (w:World) (n:Int) (e:Ending) (w':World):Prop:=∃b g,e=.returned (.pointer (some ⟨b,0,none⟩))∧w.heap.size≤g∧w.heap.size≤b ∧
   SetR w' w.heap.size b g (bound n) none 0 (List.replicate (bound n) 0) []∧Upd Nob w w'
theorem setNew_any (w:World) (n:Int) (hn1:-9223372036854775808≤n) (hn2:n≤9223372036854775807) :
  Calls Try.prog 30 #[.int .i64 n] w (SetNewPost w n):=by
 obtain⟨i0,hi,hz0,hz1,hz2⟩:=info_parts jG
 have hmk:∀(W:World) (k:Int),0≤k→k≤1048576→(Instr.makeSlice 28 (.int .i64 k) (.int .i64 k)).run Try.prog W=.ok (.slice (some ⟨W.heap.size,0,none⟩) k.toNat k.toNat) (W.alloc (.cells (madeCells #[Value.int .i64 0] k.toNat) 3)):=by
  intro W k h0 h1
  have:=run_make (P:=Try.prog) W 28 3 i0 _ Try.underlying28 hi hz0 .i64 .i64 k k h0 (Int.le_refl _) (by rw[hz2];omega) (by omega)
  rw[hz1,Nat.mul_one] at this
  exact this
 have fin:∀(N:Nat),bound n=N→SetNewPost w n (Ending.returned (.pointer (some ⟨w.heap.size+1,0,none⟩))) ((w.alloc (.cells (madeCells #[Value.int .i64 0] N) 3)).alloc (.cells #[.slice none 0 0,.slice (some ⟨w.heap.size,0,none⟩) N N] 105)):=by
  intro N hN
  unfold SetNewPost
  rw[hN]
  have hNl:N≤1048576:=by rw[←hN];unfold bound;omega
  refine⟨w.heap.size+1,w.heap.size,rfl,Nat.le_refl _,by omega,⟨?_,?_,?_,?_,by omega,iO.empty N⟩,((Upd.refl _ _).alloc _).alloc _⟩
  ·have:=Cells.new (w.alloc (.cells (madeCells #[Value.int .i64 0] N) 3)) 105 #[.slice none 0 0,.slice (some ⟨w.heap.size,0,none⟩) N N]
   simpa using this
  ·exact⟨by simp[ints],.inl ⟨rfl,rfl⟩⟩
  ·have:=World.ownsRow_lit (base:=w.heap.size) (e:=3) (size:=1) w (madeCells #[Value.int .i64 0] N) N (Nat.le_refl _) (by unfold maxLen;omega) (by simp[size_madeCells])
   rw[made_ints] at this
   exact this.alloc _
  ·simp[Value.ownBlock]
 by_cases h0:n < 0
 ·have m0:=fun W=>hmk W 0 (by omega) (by omega)
  have hb:bound n=0:=by unfold bound;omega
  clear hmk
  go_enter Try.func30,Try.ntmps30
  go_wp2
  go_ret
  exact fin 0 hb
 ·by_cases h1:1048576 < n
  ·have m0:=fun W=>hmk W 1048576 (by omega) (by omega)
   have hb:bound n=1048576:=by unfold bound;omega
   clear hmk
   go_enter Try.func30,Try.ntmps30
   go_wp2
   go_ret
   exact fin K20 hb
  ·obtain⟨N,rfl⟩:=Int.eq_ofNat_of_zero_le (by omega:0≤n)
   have m0:=fun W=>hmk W (N:Int) (by omega) (by omega)
   have hb:bound (N:Int)=N:=by unfold bound;omega
   clear hmk
   go_enter Try.func30,Try.ntmps30
   go_wp2
   go_ret
   exact fin N hb
def gI (L:List Nat) (x:Int):Bool:=decide (0≤x∧x.toNat∈L)
theorem setHas_any (w:World) (base b g N:Nat) (A:Option Addr) (c:Nat) (ats L:List Nat) (x:Int) (h:SetR w base b g N A c ats L) (hx1:-9223372036854775808≤x) (hx2:x≤9223372036854775807) (hN:N≤1048576) :
  Calls Try.prog 73 #[.pointer (some ⟨b,0,none⟩),.int .i64 x] w fun e w'=>e=.returned (.bool (gI L x))∧w=w':=by
 have e0:w.cell? ⟨b,0,none⟩=some (.slice A L.length c):=h.blk.ak rfl
 have e1:w.cell? ⟨b,0+1,none⟩=some (.slice (some ⟨g,0,none⟩) N N):=h.blk.ak rfl
 have hlen:=h.ok.length_le
 by_cases h0:x < 0
 ·have hr:gI L x=false:=by unfold gI;simp;omega
  rw[hr];clear hr
  go_enter Try.func73,Try.ntmps73
  go_wp2
  go_ret
  exact⟨rfl,rfl⟩
 obtain⟨i,rfl⟩:=Int.eq_ofNat_of_zero_le (by omega:0≤x)
 by_cases h1:N≤i
 ·have hr:gI L (i:Int)=false:=by
   unfold gI
   have:i ∉ L:=fun hm=>by have:=h.ok.lt hm;omega
   simp[this]
  rw[hr];clear hr
  go_enter Try.func73,Try.ntmps73
  go_wp2
  go_ret
  exact⟨rfl,rfl⟩
 have hi:i < N:=by omega
 obtain⟨k,hk⟩:∃k,ats[i]?=some k:=⟨_,List.getElem?_eq_getElem (by rw[h.ok.len];exact hi)⟩
 have c1:w.cell? ⟨g,i,none⟩=some (.int .i64 (k:Int)):=by rw[h.at_.cellAt i (by omega)];exact ints_at hk
 by_cases h2:k < L.length
 ·obtain⟨y,hy⟩:∃y,L[k]?=some y:=⟨_,List.getElem?_eq_getElem h2⟩
  obtain⟨q,A1,hq,hc⟩:∃q,A=some ⟨q,0,none⟩∧w.cell? ⟨q,k,none⟩=some (.int .i64 (y:Int))∧L.length≤c:=by
   rcases h.own.2 with⟨h',h''⟩ | ⟨q,cap',cur,h',hb,hg,hnc,hcm,hcs,ht⟩
   ·omega
   ·injection h' with e1 e2 e3
    subst e1;subst e3
    have:=h.own.cellAt k (by omega)
    rw[ints_at hy] at this
    exact⟨q,rfl,this,hnc⟩
  subst A1
  have hm:=h.ok.mem hk
  by_cases h3:y=i
  ·subst h3
   have hr:gI L (y:Int)=true:=by
    unfold gI
    simp[hm.2 hy]
   rw[hr];clear hr hm h
   go_enter Try.func73,Try.ntmps73
   go_wp2
   go_ret
   exact⟨rfl,rfl⟩
  ·have hr:gI L (i:Int)=false:=by
    have:i ∉ L:=fun hi'=>by
     have:=hm.1 hi'
     rw[hy] at this;injection this with this;exact h3 this
    unfold gI
    simp[this]
   rw[hr];clear hr hm h
   have h4:((y:Int)==(i:Int))=false:=by simp;omega
   go_enter Try.func73,Try.ntmps73
   go_wp2
   go_ret
   exact⟨rfl,rfl⟩
 ·have hr:gI L (i:Int)=false:=by
   have hm:=h.ok.mem hk
   have:i ∉ L:=fun hi'=>by
    have:=hm.1 hi'
    rw[List.getElem?_eq_none (by omega)] at this
    cases this
   unfold gI
   simp[this]
  rw[hr];clear hr h
  have hd:decide ((k:Int) < (L.length:Int))=false:=by simp;omega
  go_enter Try.func73,Try.ntmps73
  go_wp2
  go_ret
  exact⟨rfl,rfl⟩
structure SetP (w w':World) (base b g N:Nat) (A:Option Addr) (n c:Nat) (ats L:List Nat):Prop where
 ex:∃A' c',SetR w' base b g N A' c' ats L∧((Value.slice A' L.length c').ownBlock=(Value.slice A n c).ownBlock∨∃k,(Value.slice A' L.length c').ownBlock=some k∧w.heap.size≤k)
 upd:Upd (fun k=>k=b∨k=g∨(Value.slice A n c).ownBlock=some k) w w'
theorem setAdd_no (w:World) (base b g N:Nat) (A:Option Addr) (c:Nat) (ats L:List Nat) (x:Int) (h:SetR w base b g N A c ats L) (hx1:-9223372036854775808≤x) (hx2:x≤9223372036854775807) (hN:N≤1048576)
  (hno:x < 0∨(N:Int)≤x∨gI L x=true) :
  Calls Try.prog 51 #[.pointer (some ⟨b,0,none⟩),.int .i64 x] w fun e w'=>e=.returned (.bool false)∧w=w':=by
 have e1:w.cell? ⟨b,0+1,none⟩=some (.slice (some ⟨g,0,none⟩) N N):=h.blk.ak rfl
 by_cases h0:x < 0
 ·clear hno
  go_enter Try.func51,Try.ntmps51
  go_wp2_with fail
  go_ret
  exact⟨rfl,rfl⟩
 obtain⟨i,rfl⟩:=Int.eq_ofNat_of_zero_le (by omega:0≤x)
 by_cases h1:N≤i
 ·clear hno
  go_enter Try.func51,Try.ntmps51
  go_wp2_with fail
  go_ret
  exact⟨rfl,rfl⟩
 have hh:gI L (i:Int)=true:=by rcases hno with h | h | h;omega;omega;exact h
 have hi:i < N:=by omega
 clear hno
 go_enter Try.func51,Try.ntmps51
 go_wp2_with (go_at_call 73;refine(setHas_any w base b g N A c ats L (i:Int) h hx1 hx2 hN).mono ?_;rintro e w' ⟨rfl,rfl⟩)
 go_ret
 exact⟨rfl,rfl⟩
theorem ints_set (L:List Nat) (i k:Nat):(ints L).set i (.int .i64 (k:Int))=ints (L.set i k):=by simp[ints,List.map_set]
theorem setAdd_yes (w:World) (base b g N:Nat) (A:Option Addr) (c:Nat) (ats L:List Nat) (i:Nat) (h:SetR w base b g N A c ats L) (hN:N≤1048576) (hi:i < N) (hno:i ∉ L) (hbase:base≤w.heap.size) :
  Calls Try.prog 51 #[.pointer (some ⟨b,0,none⟩),.int .i64 (i:Int)] w fun e w'=>e=.returned (.bool true)∧SetP w w' base b g N A L.length c (ats.set i L.length) (L++[i]):=by
 have hh:gI L (i:Int)=false:=by unfold gI;simp[hno]
 have hlen:=h.ok.length_le
 have e0:w.cell? ⟨b,0,none⟩=some (.slice A L.length c):=h.blk.ak rfl
 have e1:w.cell? ⟨b,0+1,none⟩=some (.slice (some ⟨g,0,none⟩) N N):=h.blk.ak rfl
 obtain⟨k,hk⟩:∃k,ats[i]?=some k:=⟨_,List.getElem?_eq_getElem (by rw[h.ok.len];exact hi)⟩
 have c1:w.cell? ⟨g,i,none⟩=some (.int .i64 (k:Int)):=by rw[h.at_.cellAt i (by omega)];exact ints_at hk
 have f1:w.frozen? ⟨g,i,none⟩=false:=h.at_.frozenAt i
 have hne:b≠g:=by
  intro e
  subst e
  exact own_ne h.at_ h.blk (by decide) rfl
 have hAb:(Value.slice A L.length c).ownBlock≠some b:=own_ne h.own h.blk (by decide)
 have hAg:=h.apart
 obtain⟨i0,hi0,hz0,hz1,hz2⟩:=info_parts jG
 have hx2:(i:Int)≤9223372036854775807:=by omega
 go_enter Try.func51,Try.ntmps51
 go_wp2_with (go_at_call 73;refine(setHas_any w base b g N A c ats L (i:Int) h (by omega) hx2 hN).mono ?_;rintro e w' ⟨rfl,rfl⟩)
 go_region
 have hb1:Cells (w.setCell ⟨g,i,none⟩ (.int .i64 (L.length:Int))).drew b 105 #[.slice A L.length c,.slice (some ⟨g,0,none⟩) N N]:=(h.blk.far _ _ hne).drew
 have hU1:Upd (fun k=>k=b∨k=g∨(Value.slice A L.length c).ownBlock=some k) w (w.setCell ⟨g,i,none⟩ (.int .i64 (L.length:Int))).drew:=((Upd.refl _ _).setCell _ _ (fun _=>.inr (.inl rfl))).drew
 have o1:(w.setCell ⟨g,i,none⟩ (.int .i64 (L.length:Int))).drew.ownsRow base 3 1 (.slice A L.length c) L.length (ints L):=(bN h.own _ _ hAg).drew
 have a1:(w.setCell ⟨g,i,none⟩ (.int .i64 (L.length:Int))).drew.ownsRow base 3 1 (.slice (some ⟨g,0,none⟩) N N) N (ints (ats.set i L.length)):=by
  have:=(h.at_.stored i (.int .i64 (L.length:Int))).1
  rw[ints_set] at this
  exact this.drew
 have hs1:w.heap.size≤(w.setCell ⟨g,i,none⟩ (.int .i64 (L.length:Int))).drew.heap.size:=hU1.size
 clear c1 f1 e0 e1
 generalize (w.setCell ⟨g,i,none⟩ (.int .i64 (L.length:Int))).drew=w1 at *
 have e0:w1.cell? ⟨b,0,none⟩=some (.slice A L.length c):=hb1.ak rfl
 go_wp2_with (at_builtin;refine wpList_append_own_at _ rfl _ _ 28 rfl base 3 i0 (.int .i64 0) 1 8 Try.underlying28 hi0 hz0 hz1 hz2 rfl (by decide) _ _ _ rfl (o1.alloc _) ⟨w1.heap.size,0,none⟩ 1 1 [.int .i64 (i:Int)] rfl rfl ?c1 ?c2 ?c3 ?c4 ?c5 ?_)
 case c1 =>
  intro j u hj
  match j,hj with
  | 0,hj=>simp at hj;subst hj;simp[Addr.add]
 case c2=>intro u hu;simp at hu;subst hu;rfl
 case c3=>unfold maxLen;omega
 case c4=>omega
 case c5=>simp;omega
 intro v' w2 hown' hg _ hat
 obtain⟨A',c',rfl⟩:=dG hown'
 clear e0
 have hb2:Cells w2 b 105 #[.slice A L.length c,.slice (some ⟨g,0,none⟩) N N]:=(hb1.alloc _).grown hg hAb
 have e0:w2.cell? ⟨b,0,none⟩=some (.slice A L.length c):=hb2.ak rfl
 have f0:=hb2.frozen 0
 have a2:w2.ownsRow base 3 1 (.slice (some ⟨g,0,none⟩) N N) N (ints (ats.set i L.length)):=(a1.alloc _).kept hg (.inr (fun e=>hAg e.symm))
 go_wp2
 go_ret
 have hAb':(Value.slice A' (L.length+1) c').ownBlock≠some b:=own_ne hown' hb2 (by decide)
 have hglt:g < w1.heap.size:=(a1.lt g rfl).2
 have hAg':(Value.slice A' (L.length+1) c').ownBlock≠some g:=by
  rcases hat with e | e
  ·rw[e];exact hAg
  ·rw[e];simp;omega
 have hL:(L++[i]).length=L.length+1:=by simp
 refine⟨rfl,⟨A',c',⟨?_,?_,?_,?_,h.low,h.ok.add hi hno⟩,?_⟩,?_⟩
 ·have:=hb2.aW 0 (.slice A' (L.length+1) c')
  rw[hL]
  simpa using this
 ·have:=bN hown' ⟨b,0,none⟩ (.slice A' (L.length+1) c') hAb'
  rw[hL]
  simpa [ints] using this
 ·exact bN a2 _ _ (by simpa [Value.ownBlock] using fun e=>hne e.symm)
 ·rw[hL];exact hAg'
 ·rw[hL]
  rcases hat with e | e
  ·exact .inl e
  ·exact .inr ⟨_,e,by first | omega | (simp;omega)⟩
 ·refine((hU1.alloc _).grown hg ?_).setCell _ _ ?_
  ·intro k hk _;exact .inr (.inr hk)
  ·intro _;exact .inl rfl
theorem setClear_any (w:World) (base b g N:Nat) (A:Option Addr) (c:Nat) (ats L:List Nat) (h:SetR w base b g N A c ats L) :
  Calls Try.prog 48 #[.pointer (some ⟨b,0,none⟩)] w fun e w'=>e=.returned (.tuple #[])∧SetP w w' base b g N A L.length c ats []:=by
 have hAb:(Value.slice A L.length c).ownBlock≠some b:=own_ne h.own h.blk (by decide)
 have hAg:=h.apart
 have hne:b≠g:=by
  intro e
  subst e
  exact own_ne h.at_ h.blk (by decide) rfl
 obtain⟨i0,hi0,hz0,hz1,hz2⟩:=info_parts jG
 have e0:w.cell? ⟨b,0,none⟩=some (.slice A L.length c):=h.blk.ak rfl
 go_enter Try.func48,Try.ntmps48
 go_wp2_with ((with_reducible show wpList _ _ _ _ _ _);refine wpList_clear_own rfl (.tmp 5) 28 rfl base 3 i0 (.int .i64 0) 1 Try.underlying28 hi0 hz0 rfl (by decide) (.slice A L.length c) L.length (ints L) rfl h.own ?_)
 intro w1 o1 hg
 have hb1:=h.blk.grown hg hAb
 clear e0
 have e0:w1.cell? ⟨b,0,none⟩=some (.slice A L.length c):=hb1.ak rfl
 have f0:=hb1.frozen 0
 have o2:=own_none o1
 have a1:=h.at_.kept hg (.inr (fun e=>hAg e.symm))
 go_wp2
 go_end0
 have hAb':(Value.slice A 0 c).ownBlock≠some b:=by intro e;apply hAb;cases A <;> exact e
 refine⟨rfl,⟨A,c,⟨?_,bN o2 _ _ hAb',bN a1 _ _ (by simpa [Value.ownBlock] using fun e=>hne e.symm),?_,h.low,h.ok.cleared⟩,.inl (by cases A <;> rfl)⟩,?_⟩
 ·have:=hb1.aW 0 (.slice A 0 c)
  simpa using this
 ·intro e;apply hAg;cases A <;> exact e
 ·refine((Upd.refl _ _).grown hg ?_).setCell _ _ ?_
  ·intro k hk _;exact .inr (.inr hk)
  ·intro _;exact .inl rfl
end Go.Proofs.Ytnkefclbchpafaa
