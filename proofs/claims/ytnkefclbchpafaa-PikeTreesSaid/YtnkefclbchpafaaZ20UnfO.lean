/-
  RepR, RepO, UnfO, put together.
-/
import Derived.Test.YtnkefclbchpafaaZ16Loop7

/-
  Drawn regions of heronref06's Tree.repeat, Tree.unfold. Printed by tools/mkRep.py.
-/
namespace Go.Proofs.Ytnkefclbchpafaa
set_option maxRecDepth 100000
set_option maxHeartbeats 16000000
open Go.RowKit
set_option linter.unusedVariables false
theorem rep_reg3 (Q:Exit→Act→World→Prop) (wr:World) (tb xb3 xb5 a n2:Nat) (lz:Bool) (c0 c1 c2 c3 c4 c5 c6 c7 c8:Value) (G1:World→Prop) (G2:World→World→Prop) (x1 x2 x4 x6 x7 x8 x9 x10 x11 x12 x13 x14 x15 x16 x17 x18 x19 x20 x21 x22 x23 x24 x25 x26 x27 x28 x29 x30 x31 x32 x33 x34 x35 x36 x37 x38 x39 x40 x41 x42 x43 x44 x45 x46 x47 x48 x49 x50 x51 x52 x53 x54 x55 x56 x57 x58 x59 x60 x61 x62 x63 x64 x65 x66 x67 x68 x69 x70 x71 x72 x73 x74 x75 x76 x77 x78 x79 x80 x81 x82 x83:Value)
  (hS:(fun(w':World)=>w'.cell? ⟨xb5,0,none⟩=some (c0)∧w'.cell? ⟨xb5,1,none⟩=some (c1)∧w'.cell? ⟨xb5,2,none⟩=some (c2)∧w'.cell? ⟨xb5,3,none⟩=some (c3)∧w'.cell? ⟨xb5,4,none⟩=some (c4)∧w'.cell? ⟨xb5,5,none⟩=some (c5)∧w'.cell? ⟨xb5,6,none⟩=some (c6)∧w'.cell? ⟨xb5,7,none⟩=some (c7)∧w'.cell? ⟨xb5,8,none⟩=some (c8)∧w'.cell? ⟨xb3,0+6,none⟩=some (.bool lz)) wr)
  (hC1:Calls Try.prog 44 #[.pointer (some ⟨tb,0,none⟩),.agg #[c0,c1,c2,c3,c4,c5,c6,c7,c8]] wr.drew (fun(e:Ending) (w1:World)=>e=.returned (.int .i64 (a:Int))∧G1 w1)) (hk1:∀(w1:World),G1 w1→(fun(w':World)=>w'.cell? ⟨xb5,0,none⟩=some (c0)∧w'.cell? ⟨xb5,1,none⟩=some (c1)∧w'.cell? ⟨xb5,2,none⟩=some (c2)∧w'.cell? ⟨xb5,3,none⟩=some (c3)∧w'.cell? ⟨xb5,4,none⟩=some (c4)∧w'.cell? ⟨xb5,5,none⟩=some (c5)∧w'.cell? ⟨xb5,6,none⟩=some (c6)∧w'.cell? ⟨xb5,7,none⟩=some (c7)∧w'.cell? ⟨xb5,8,none⟩=some (c8)∧w'.cell? ⟨xb3,0+6,none⟩=some (.bool lz)) w1∧(fun(w':World)=>w'.cell? ⟨xb5,0,none⟩=some (c0)∧w'.cell? ⟨xb5,1,none⟩=some (c1)∧w'.cell? ⟨xb5,2,none⟩=some (c2)∧w'.cell? ⟨xb5,3,none⟩=some (c3)∧w'.cell? ⟨xb5,4,none⟩=some (c4)∧w'.cell? ⟨xb5,5,none⟩=some (c5)∧w'.cell? ⟨xb5,6,none⟩=some (c6)∧w'.cell? ⟨xb5,7,none⟩=some (c7)∧w'.cell? ⟨xb5,8,none⟩=some (c8)∧w'.cell? ⟨xb3,0+6,none⟩=some (.bool lz)) (w1.alloc (.cells #[.int .i64 (a:Int)] 3)))
  (hC2:∀(w1:World),G1 w1→Calls Try.prog 64 #[.pointer (some ⟨tb,0,none⟩),.agg #[.int .i64 101,.int .i64 0,.int .i64 0,.slice none 0 0,.slice (some ⟨w1.heap.size,0,none⟩) 1 1,.bool lz,.int .i64 0,.int .i64 0]] (w1.alloc (.cells #[.int .i64 (a:Int)] 3)) (fun(e:Ending) (w3:World)=>e=.returned (.int .i64 (n2:Int))∧G2 w1 w3)) (hk2:∀(w1 w3:World),G1 w1→G2 w1 w3→(fun(w':World)=>w'.cell? ⟨xb5,0,none⟩=some (c0)∧w'.cell? ⟨xb5,1,none⟩=some (c1)∧w'.cell? ⟨xb5,2,none⟩=some (c2)∧w'.cell? ⟨xb5,3,none⟩=some (c3)∧w'.cell? ⟨xb5,4,none⟩=some (c4)∧w'.cell? ⟨xb5,5,none⟩=some (c5)∧w'.cell? ⟨xb5,6,none⟩=some (c6)∧w'.cell? ⟨xb5,7,none⟩=some (c7)∧w'.cell? ⟨xb5,8,none⟩=some (c8)∧w'.cell? ⟨xb3,0+6,none⟩=some (.bool lz)) w3)
  (hnext:∀(v21 v22 v23 v24 v25 v26 v27 v28 v29:Value) (w1 w3:World),G1 w1→G2 w1 w3→Q .normal ⟨#[.pointer (some ⟨tb,0,none⟩),x1,x2,.pointer (some ⟨xb3,0,none⟩),.int .i64 (n2:Int),.pointer (some ⟨xb5,0,none⟩),x6,x7,x8,x9,x10,x11,x12,x13,x14,x15,x16,x17,x18,x19,x20,v21,v22,v23,v24,v25,v26,v27,v28,v29,x30,x31,x32,x33,x34,x35,x36,x37,x38,x39,x40,x41,x42,x43,x44,x45,x46,x47,x48,x49,x50,x51,x52,x53,x54,x55,x56,x57,x58,x59,x60,x61,x62,x63,x64,x65,x66,x67,x68,x69,x70,x71,x72,x73,x74,x75,x76,x77,x78,x79,x80,x81,x82,x83],[]⟩ w3) :
  (Code.region 3 #[{ dst:=some 21,op:=Op.move (Operand.tmp 0),type:=93,pos:= "ref.go:101",after:=#[],guard:=none },{ dst:=some 22,op:=Op.move (Operand.tmp 0),type:=93,pos:= "ref.go:101",after:=#[],guard:=none },{ dst:=some 23,op:=Op.load 47 (Operand.tmp 5),type:=47,pos:= "ref.go:101",after:=#[],guard:=none },{ dst:=some 24,op:=Op.call { callee:=Callee.value (Operand.func 44),args:=#[Operand.tmp 22,Operand.tmp 23],argTypes:=#[93, 47] },type:=3,pos:= "ref.go:101",after:=#[{ on:=1,ground:=.data },{ on:=2,ground:=.data }],guard:=none },{ dst:=some 25,op:=Op.buildSlice 28 1 #[(0,Operand.tmp 24)],type:=28,pos:= "ref.go:101",after:=#[{ on:=3,ground:=.data }],guard:=none },{ dst:=some 26,op:=Op.fieldAddr 47 (Operand.tmp 3) 6,type:=0,pos:= "ref.go:101",after:=#[],guard:=none },{ dst:=some 27,op:=Op.load 4 (Operand.tmp 26),type:=4,pos:= "ref.go:101",after:=#[{ on:=5,ground:=.data }],guard:=none },{ dst:=some 28,op:=Op.build 119 #[(0,Operand.const (Value.int IntKind.i64 101)),(4,Operand.tmp 25),(5,Operand.tmp 27)],type:=119,pos:= "ref.go:101",after:=#[{ on:=4,ground:=.data },{ on:=6,ground:=.data }],guard:=none },{ dst:=some 29,op:=Op.call { callee:=Callee.value (Operand.func 64),args:=#[Operand.tmp 21,Operand.tmp 28],argTypes:=#[93, 119] },type:=3,pos:= "ref.go:101",after:=#[{ on:=0,ground:=.data },{ on:=7,ground:=.data },{ on:=3,ground:=.chain }],guard:=none },{ dst:=some 4,op:=Op.assign (Operand.tmp 29),type:=3,pos:= "ref.go:101",after:=#[{ on:=8,ground:=.data },{ on:=8,ground:=.chain },{ on:=0,ground:=.phase },{ on:=1,ground:=.phase },{ on:=2,ground:=.phase },{ on:=3,ground:=.phase },{ on:=4,ground:=.phase },{ on:=5,ground:=.phase },{ on:=6,ground:=.phase },{ on:=7,ground:=.phase },{ on:=8,ground:=.phase }],guard:=none }] true).wp Try.prog Q ⟨#[.pointer (some ⟨tb,0,none⟩),x1,x2,.pointer (some ⟨xb3,0,none⟩),x4,.pointer (some ⟨xb5,0,none⟩),x6,x7,x8,x9,x10,x11,x12,x13,x14,x15,x16,x17,x18,x19,x20,x21,x22,x23,x24,x25,x26,x27,x28,x29,x30,x31,x32,x33,x34,x35,x36,x37,x38,x39,x40,x41,x42,x43,x44,x45,x46,x47,x48,x49,x50,x51,x52,x53,x54,x55,x56,x57,x58,x59,x60,x61,x62,x63,x64,x65,x66,x67,x68,x69,x70,x71,x72,x73,x74,x75,x76,x77,x78,x79,x80,x81,x82,x83],[]⟩ wr:=by
 have HC1:=ah hC1
 have HC2:=ah hC2
 have HKK1:=ah hk1
 have HKK2:=ah hk2
 have HY:=ah hnext
 clear hC1 hC2 hk1 hk2 hnext
 refine Code.wp_mono (QuietQ.imp (G:=fun _ _ _=>False) (fun _ _ _ h=>h.elim)) ?_
 refine aP.begin 9 (fun(w':World)=>w'.cell? ⟨xb5,0,none⟩=some (c0)∧w'.cell? ⟨xb5,1,none⟩=some (c1)∧w'.cell? ⟨xb5,2,none⟩=some (c2)∧w'.cell? ⟨xb5,3,none⟩=some (c3)∧w'.cell? ⟨xb5,4,none⟩=some (c4)∧w'.cell? ⟨xb5,5,none⟩=some (c5)∧w'.cell? ⟨xb5,6,none⟩=some (c6)∧w'.cell? ⟨xb5,7,none⟩=some (c7)∧w'.cell? ⟨xb5,8,none⟩=some (c8)∧w'.cell? ⟨xb3,0+6,none⟩=some (.bool lz)) (by kernel_rfl) hS (fun hSS=>?_)
 refine aP.take (i:=0) (oi:={ dst:=some 21,op:=Op.move (Operand.tmp 0),type:=93,pos:= "ref.go:101",after:=#[],guard:=none }) (v:=?v0nra1) ?a0nra1 ?b0nra1 ?c0nra1 ?d0nra1 ?e0nra1 (fun _ _ _ h=>h) (Or.inl ⟨?f0nra1,?y0nra1⟩) (by assumption) ?r0nra1
 case a0nra1=>rfl
 case b0nra1=>kernel_rfl
 case c0nra1=>kernel_rfl
 case d0nra1=>kernel_rfl
 case e0nra1=>kernel_rfl
 case f0nra1=>rfl
 case y0nra1=>(intro w' hSw;(try dsimp only at hSw);obtain⟨s0,s1,s2,s3,s4,s5,s6,s7,s8,s9⟩:=hSw;go_simp;try with_reducible rfl)
 try simp only[Act.put,List.setIfInBounds_toArray,List.set_cons_zero,List.set_cons_succ]
 refine aP.take (i:=1) (oi:={ dst:=some 22,op:=Op.move (Operand.tmp 0),type:=93,pos:= "ref.go:101",after:=#[],guard:=none }) (v:=?v1nra2) ?a1nra2 ?b1nra2 ?c1nra2 ?d1nra2 ?e1nra2 (fun _ _ _ h=>h) (Or.inl ⟨?f1nra2,?y1nra2⟩) (by assumption) ?r1nra2
 case a1nra2=>rfl
 case b1nra2=>kernel_rfl
 case c1nra2=>kernel_rfl
 case d1nra2=>kernel_rfl
 case e1nra2=>kernel_rfl
 case f1nra2=>rfl
 case y1nra2=>(intro w' hSw;(try dsimp only at hSw);obtain⟨s0,s1,s2,s3,s4,s5,s6,s7,s8,s9⟩:=hSw;go_simp;try with_reducible rfl)
 try simp only[Act.put,List.setIfInBounds_toArray,List.set_cons_zero,List.set_cons_succ]
 refine aP.take (i:=2) (oi:={ dst:=some 23,op:=Op.load 47 (Operand.tmp 5),type:=47,pos:= "ref.go:101",after:=#[],guard:=none }) (v:=?v2nra3) ?a2nra3 ?b2nra3 ?c2nra3 ?d2nra3 ?e2nra3 (fun _ _ _ h=>h) (Or.inl ⟨?f2nra3,?y2nra3⟩) (by assumption) ?r2nra3
 case a2nra3=>rfl
 case b2nra3=>kernel_rfl
 case c2nra3=>kernel_rfl
 case d2nra3=>kernel_rfl
 case e2nra3=>kernel_rfl
 case f2nra3=>rfl
 case y2nra3=>(intro w' hSw;(try dsimp only at hSw);obtain⟨s0,s1,s2,s3,s4,s5,s6,s7,s8,s9⟩:=hSw;go_simp;try with_reducible rfl)
 try simp only[Act.put,List.setIfInBounds_toArray,List.set_cons_zero,List.set_cons_succ]
 refine aP.take (i:=5) (oi:={ dst:=some 26,op:=Op.fieldAddr 47 (Operand.tmp 3) 6,type:=0,pos:= "ref.go:101",after:=#[],guard:=none }) (v:=?v5nra4) ?a5nra4 ?b5nra4 ?c5nra4 ?d5nra4 ?e5nra4 (fun _ _ _ h=>h) (Or.inl ⟨?f5nra4,?y5nra4⟩) (by assumption) ?r5nra4
 case a5nra4=>rfl
 case b5nra4=>kernel_rfl
 case c5nra4=>kernel_rfl
 case d5nra4=>kernel_rfl
 case e5nra4=>kernel_rfl
 case f5nra4=>rfl
 case y5nra4=>(intro w' hSw;(try dsimp only at hSw);obtain⟨s0,s1,s2,s3,s4,s5,s6,s7,s8,s9⟩:=hSw;go_simp;try with_reducible rfl)
 try simp only[Act.put,List.setIfInBounds_toArray,List.set_cons_zero,List.set_cons_succ]
 refine aP.take (i:=6) (oi:={ dst:=some 27,op:=Op.load 4 (Operand.tmp 26),type:=4,pos:= "ref.go:101",after:=#[{ on:=5,ground:=.data }],guard:=none }) (v:=?v6nra5) ?a6nra5 ?b6nra5 ?c6nra5 ?d6nra5 ?e6nra5 (fun _ _ _ h=>h) (Or.inl ⟨?f6nra5,?y6nra5⟩) (by assumption) ?r6nra5
 case a6nra5=>rfl
 case b6nra5=>kernel_rfl
 case c6nra5=>kernel_rfl
 case d6nra5=>kernel_rfl
 case e6nra5=>kernel_rfl
 case f6nra5=>rfl
 case y6nra5=>(intro w' hSw;(try dsimp only at hSw);obtain⟨s0,s1,s2,s3,s4,s5,s6,s7,s8,s9⟩:=hSw;go_simp;try with_reducible rfl)
 try simp only[Act.put,List.setIfInBounds_toArray,List.set_cons_zero,List.set_cons_succ]
 clear hSS hS
 refine aP.one (i:=3) (o:={ dst:=some 24,op:=Op.call { callee:=Callee.value (Operand.func 44),args:=#[Operand.tmp 22,Operand.tmp 23],argTypes:=#[93, 47] },type:=3,pos:= "ref.go:101",after:=#[{ on:=1,ground:=.data },{ on:=2,ground:=.data }],guard:=none }) ?pra6 ?qra6 ?_
 case pra6=>kernel_rfl
 case qra6=>rfl
 intro K' hK
 go_simp
 refine HC1.out.mono ?_
 rintro e w1 ⟨rfl,hG1⟩
 have HG1:=ah hG1
 have HK1:=ah (HKK1.out w1 hG1)
 refine hK.out _ _ (.inr HK1.out.1) ?_;clear hK K' hG1
 try simp only[Act.put,List.setIfInBounds_toArray,List.set_cons_zero,List.set_cons_succ]
 refine aP.one (i:=4) (o:={ dst:=some 25,op:=Op.buildSlice 28 1 #[(0,Operand.tmp 24)],type:=28,pos:= "ref.go:101",after:=#[{ on:=3,ground:=.data }],guard:=none }) ?pra7 ?qra7 ?_
 case pra7=>kernel_rfl
 case qra7=>rfl
 intro K' hK
 go_simp
 refine hK.out _ _ (.inr HK1.out.2) ?_;clear hK K'
 try simp only[Act.put,List.setIfInBounds_toArray,List.set_cons_zero,List.set_cons_succ]
 have hS2:(fun(w':World)=>w'.cell? ⟨xb5,0,none⟩=some (c0)∧w'.cell? ⟨xb5,1,none⟩=some (c1)∧w'.cell? ⟨xb5,2,none⟩=some (c2)∧w'.cell? ⟨xb5,3,none⟩=some (c3)∧w'.cell? ⟨xb5,4,none⟩=some (c4)∧w'.cell? ⟨xb5,5,none⟩=some (c5)∧w'.cell? ⟨xb5,6,none⟩=some (c6)∧w'.cell? ⟨xb5,7,none⟩=some (c7)∧w'.cell? ⟨xb5,8,none⟩=some (c8)∧w'.cell? ⟨xb3,0+6,none⟩=some (.bool lz)) (w1.alloc (.cells #[.int .i64 (a:Int)] 3)):=HK1.out.2
 refine aP.take (i:=7) (oi:={ dst:=some 28,op:=Op.build 119 #[(0,Operand.const (Value.int IntKind.i64 101)),(4,Operand.tmp 25),(5,Operand.tmp 27)],type:=119,pos:= "ref.go:101",after:=#[{ on:=4,ground:=.data },{ on:=6,ground:=.data }],guard:=none }) (v:=?v7nra8) ?a7nra8 ?b7nra8 ?c7nra8 ?d7nra8 ?e7nra8 (fun _ _ _ h=>h) (Or.inl ⟨?f7nra8,?y7nra8⟩) (by assumption) ?r7nra8
 case a7nra8=>rfl
 case b7nra8=>kernel_rfl
 case c7nra8=>kernel_rfl
 case d7nra8=>kernel_rfl
 case e7nra8=>kernel_rfl
 case f7nra8=>rfl
 case y7nra8=>(intro w' hSw;(try dsimp only at hSw);obtain⟨s0,s1,s2,s3,s4,s5,s6,s7,s8,s9⟩:=hSw;go_simp;try with_reducible rfl)
 try simp only[Act.put,List.setIfInBounds_toArray,List.set_cons_zero,List.set_cons_succ]
 clear hS2
 refine aP.one (i:=8) (o:={ dst:=some 29,op:=Op.call { callee:=Callee.value (Operand.func 64),args:=#[Operand.tmp 21,Operand.tmp 28],argTypes:=#[93, 119] },type:=3,pos:= "ref.go:101",after:=#[{ on:=0,ground:=.data },{ on:=7,ground:=.data },{ on:=3,ground:=.chain }],guard:=none }) ?pra9 ?qra9 ?_
 case pra9=>kernel_rfl
 case qra9=>rfl
 intro K' hK
 go_simp
 refine(HC2.out w1 HG1.out).mono ?_
 rintro e w3 ⟨rfl,hG2⟩
 have HG2:=ah hG2
 have HK3:=ah (HKK2.out w1 w3 HG1.out hG2)
 refine hK.out _ _ (.inr HK3.out) ?_;clear hK K' hG2
 try simp only[Act.put,List.setIfInBounds_toArray,List.set_cons_zero,List.set_cons_succ]
 refine aP.one (i:=9) (o:={ dst:=some 4,op:=Op.assign (Operand.tmp 29),type:=3,pos:= "ref.go:101",after:=#[{ on:=8,ground:=.data },{ on:=8,ground:=.chain },{ on:=0,ground:=.phase },{ on:=1,ground:=.phase },{ on:=2,ground:=.phase },{ on:=3,ground:=.phase },{ on:=4,ground:=.phase },{ on:=5,ground:=.phase },{ on:=6,ground:=.phase },{ on:=7,ground:=.phase },{ on:=8,ground:=.phase }],guard:=none }) ?pra10 ?qra10 ?_
 case pra10=>kernel_rfl
 case qra10=>rfl
 intro K' hK
 go_simp
 refine hK.out _ _ (.inl rfl) ?_;clear hK K'
 refine aP.done ?_ ?_ _
 ·kernel_rfl
 exact HY.out _ _ _ _ _ _ _ _ _ w1 w3 HG1.out HG2.out
theorem rep_reg13 (Q:Exit→Act→World→Prop) (wr:World) (tb xb3 xb5 a n2 m lc base:Nat) (LA:Option Addr) (vs:List Value) (lz:Bool) (c0 c1 c2 c3 c4 c5 c6 c7 c8:Value) (G1:World→Prop) (G2:World→World→Prop) (x1 x2 x4 x7 x8 x9 x10 x11 x12 x13 x14 x15 x16 x17 x18 x19 x20 x21 x22 x23 x24 x25 x26 x27 x28 x29 x30 x31 x32 x33 x34 x35 x36 x37 x38 x39 x40 x41 x42 x43 x44 x45 x46 x47 x48 x49 x50 x51 x52 x53 x54 x55 x56 x57 x58 x59 x60 x61 x62 x63 x64 x65 x66 x67 x68 x69 x70 x71 x72 x73 x74 x75 x76 x77 x78 x79 x80 x81 x82 x83:Value)
  (hS:(fun(w':World)=>w'.cell? ⟨xb5,0,none⟩=some (c0)∧w'.cell? ⟨xb5,1,none⟩=some (c1)∧w'.cell? ⟨xb5,2,none⟩=some (c2)∧w'.cell? ⟨xb5,3,none⟩=some (c3)∧w'.cell? ⟨xb5,4,none⟩=some (c4)∧w'.cell? ⟨xb5,5,none⟩=some (c5)∧w'.cell? ⟨xb5,6,none⟩=some (c6)∧w'.cell? ⟨xb5,7,none⟩=some (c7)∧w'.cell? ⟨xb5,8,none⟩=some (c8)∧w'.cell? ⟨xb3,0+6,none⟩=some (.bool lz)) wr) (hm:m≤100000)
  (hC1:Calls Try.prog 44 #[.pointer (some ⟨tb,0,none⟩),.agg #[c0,c1,c2,c3,c4,c5,c6,c7,c8]] wr.drew (fun(e:Ending) (w1:World)=>e=.returned (.int .i64 (a:Int))∧G1 w1)) (hk1:∀(w1:World),G1 w1→(fun(w':World)=>w'.cell? ⟨xb5,0,none⟩=some (c0)∧w'.cell? ⟨xb5,1,none⟩=some (c1)∧w'.cell? ⟨xb5,2,none⟩=some (c2)∧w'.cell? ⟨xb5,3,none⟩=some (c3)∧w'.cell? ⟨xb5,4,none⟩=some (c4)∧w'.cell? ⟨xb5,5,none⟩=some (c5)∧w'.cell? ⟨xb5,6,none⟩=some (c6)∧w'.cell? ⟨xb5,7,none⟩=some (c7)∧w'.cell? ⟨xb5,8,none⟩=some (c8)∧w'.cell? ⟨xb3,0+6,none⟩=some (.bool lz)) w1∧(fun(w':World)=>w'.cell? ⟨xb5,0,none⟩=some (c0)∧w'.cell? ⟨xb5,1,none⟩=some (c1)∧w'.cell? ⟨xb5,2,none⟩=some (c2)∧w'.cell? ⟨xb5,3,none⟩=some (c3)∧w'.cell? ⟨xb5,4,none⟩=some (c4)∧w'.cell? ⟨xb5,5,none⟩=some (c5)∧w'.cell? ⟨xb5,6,none⟩=some (c6)∧w'.cell? ⟨xb5,7,none⟩=some (c7)∧w'.cell? ⟨xb5,8,none⟩=some (c8)∧w'.cell? ⟨xb3,0+6,none⟩=some (.bool lz)) (w1.alloc (.cells #[.int .i64 (a:Int)] 3)))
  (hC2:∀(w1:World),G1 w1→Calls Try.prog 64 #[.pointer (some ⟨tb,0,none⟩),.agg #[.int .i64 102,.int .i64 0,.int .i64 0,.slice none 0 0,.slice (some ⟨w1.heap.size,0,none⟩) 1 1,.bool lz,.int .i64 0,.int .i64 0]] (w1.alloc (.cells #[.int .i64 (a:Int)] 3)) (fun(e:Ending) (w3:World)=>e=.returned (.int .i64 (n2:Int))∧G2 w1 w3)) (hk2:∀(w1 w3:World),G1 w1→G2 w1 w3→(fun(w':World)=>w'.cell? ⟨xb5,0,none⟩=some (c0)∧w'.cell? ⟨xb5,1,none⟩=some (c1)∧w'.cell? ⟨xb5,2,none⟩=some (c2)∧w'.cell? ⟨xb5,3,none⟩=some (c3)∧w'.cell? ⟨xb5,4,none⟩=some (c4)∧w'.cell? ⟨xb5,5,none⟩=some (c5)∧w'.cell? ⟨xb5,6,none⟩=some (c6)∧w'.cell? ⟨xb5,7,none⟩=some (c7)∧w'.cell? ⟨xb5,8,none⟩=some (c8)∧w'.cell? ⟨xb3,0+6,none⟩=some (.bool lz)) w3)
  (hO:∀(w1 w3:World),G1 w1→G2 w1 w3→w3.ownsRow base 3 1 (.slice LA m lc) m vs∧base≤w3.heap.size) (hk3:∀(w1 w3 w4:World),G1 w1→G2 w1 w3→Upd (fun(b:Nat)=>(Value.slice LA m lc).ownBlock=some b) w3 w4→(fun(w':World)=>w'.cell? ⟨xb5,0,none⟩=some (c0)∧w'.cell? ⟨xb5,1,none⟩=some (c1)∧w'.cell? ⟨xb5,2,none⟩=some (c2)∧w'.cell? ⟨xb5,3,none⟩=some (c3)∧w'.cell? ⟨xb5,4,none⟩=some (c4)∧w'.cell? ⟨xb5,5,none⟩=some (c5)∧w'.cell? ⟨xb5,6,none⟩=some (c6)∧w'.cell? ⟨xb5,7,none⟩=some (c7)∧w'.cell? ⟨xb5,8,none⟩=some (c8)∧w'.cell? ⟨xb3,0+6,none⟩=some (.bool lz)) w4)
  (hnext:∀(v51 v52 v53 v54 v55 v56 v57 v58 v59 v60 v61 v62:Value) (w1 w3 w4:World) (gN cN:Nat),G1 w1→G2 w1 w3→Upd (fun(b:Nat)=>(Value.slice LA m lc).ownBlock=some b) w3 w4→((Value.slice LA m lc).ownBlock=some gN∨gN=w3.heap.size+1)→gN < w4.heap.size→w4.ownsRow base 3 1 (.slice (some ⟨gN,0,none⟩) (m+1) cN) (m+1) (vs++[.int .i64 (n2:Int)])→Q .normal ⟨#[.pointer (some ⟨tb,0,none⟩),x1,x2,.pointer (some ⟨xb3,0,none⟩),x4,.pointer (some ⟨xb5,0,none⟩),.slice (some ⟨gN,0,none⟩) (m+1) cN,x7,x8,x9,x10,x11,x12,x13,x14,x15,x16,x17,x18,x19,x20,x21,x22,x23,x24,x25,x26,x27,x28,x29,x30,x31,x32,x33,x34,x35,x36,x37,x38,x39,x40,x41,x42,x43,x44,x45,x46,x47,x48,x49,x50,v51,v52,v53,v54,v55,v56,v57,v58,v59,v60,v61,v62,x63,x64,x65,x66,x67,x68,x69,x70,x71,x72,x73,x74,x75,x76,x77,x78,x79,x80,x81,x82,x83],[]⟩ w4) :
  (Code.region 13 #[{ dst:=some 51,op:=Op.move (Operand.tmp 6),type:=28,pos:= "ref.go:112",after:=#[],guard:=none },{ dst:=some 52,op:=Op.move (Operand.tmp 0),type:=93,pos:= "ref.go:112",after:=#[],guard:=none },{ dst:=some 53,op:=Op.move (Operand.tmp 0),type:=93,pos:= "ref.go:112",after:=#[],guard:=none },{ dst:=some 54,op:=Op.load 47 (Operand.tmp 5),type:=47,pos:= "ref.go:112",after:=#[],guard:=none },{ dst:=some 55,op:=Op.call { callee:=Callee.value (Operand.func 44),args:=#[Operand.tmp 53,Operand.tmp 54],argTypes:=#[93, 47] },type:=3,pos:= "ref.go:112",after:=#[{ on:=2,ground:=.data },{ on:=3,ground:=.data }],guard:=none },{ dst:=some 56,op:=Op.buildSlice 28 1 #[(0,Operand.tmp 55)],type:=28,pos:= "ref.go:112",after:=#[{ on:=4,ground:=.data }],guard:=none },{ dst:=some 57,op:=Op.fieldAddr 47 (Operand.tmp 3) 6,type:=0,pos:= "ref.go:112",after:=#[],guard:=none },{ dst:=some 58,op:=Op.load 4 (Operand.tmp 57),type:=4,pos:= "ref.go:112",after:=#[{ on:=6,ground:=.data }],guard:=none },{ dst:=some 59,op:=Op.build 119 #[(0,Operand.const (Value.int IntKind.i64 102)),(4,Operand.tmp 56),(5,Operand.tmp 58)],type:=119,pos:= "ref.go:112",after:=#[{ on:=5,ground:=.data },{ on:=7,ground:=.data }],guard:=none },{ dst:=some 60,op:=Op.call { callee:=Callee.value (Operand.func 64),args:=#[Operand.tmp 52,Operand.tmp 59],argTypes:=#[93, 119] },type:=3,pos:= "ref.go:112",after:=#[{ on:=1,ground:=.data },{ on:=8,ground:=.data },{ on:=4,ground:=.chain }],guard:=none },{ dst:=some 61,op:=Op.buildSlice 28 1 #[(0,Operand.tmp 60)],type:=28,pos:= "ref.go:112",after:=#[{ on:=9,ground:=.data }],guard:=none },{ dst:=some 62,op:=Op.call { callee:=Callee.builtin Builtin.append,args:=#[Operand.tmp 51,Operand.tmp 61],argTypes:=#[28, 28] },type:=28,pos:= "ref.go:112",after:=#[{ on:=0,ground:=.data },{ on:=10,ground:=.data },{ on:=9,ground:=.chain }],guard:=none },{ dst:=some 6,op:=Op.assign (Operand.tmp 62),type:=28,pos:= "ref.go:112",after:=#[{ on:=11,ground:=.data },{ on:=11,ground:=.chain },{ on:=0,ground:=.phase },{ on:=1,ground:=.phase },{ on:=2,ground:=.phase },{ on:=3,ground:=.phase },{ on:=4,ground:=.phase },{ on:=5,ground:=.phase },{ on:=6,ground:=.phase },{ on:=7,ground:=.phase },{ on:=8,ground:=.phase },{ on:=9,ground:=.phase },{ on:=10,ground:=.phase },{ on:=11,ground:=.phase }],guard:=none }] true).wp Try.prog Q ⟨#[.pointer (some ⟨tb,0,none⟩),x1,x2,.pointer (some ⟨xb3,0,none⟩),x4,.pointer (some ⟨xb5,0,none⟩),.slice LA m lc,x7,x8,x9,x10,x11,x12,x13,x14,x15,x16,x17,x18,x19,x20,x21,x22,x23,x24,x25,x26,x27,x28,x29,x30,x31,x32,x33,x34,x35,x36,x37,x38,x39,x40,x41,x42,x43,x44,x45,x46,x47,x48,x49,x50,x51,x52,x53,x54,x55,x56,x57,x58,x59,x60,x61,x62,x63,x64,x65,x66,x67,x68,x69,x70,x71,x72,x73,x74,x75,x76,x77,x78,x79,x80,x81,x82,x83],[]⟩ wr:=by
 obtain⟨i0,hi0,hz0,hz1,hz2⟩:=info_parts iw
 have HC1:=ah hC1
 have HC2:=ah hC2
 have HKK1:=ah hk1
 have HKK2:=ah hk2
 have HKK3:=ah hk3
 have HOO:=ah hO
 have HY:=ah hnext
 clear hC1 hC2 hk1 hk2 hk3 hO hnext
 refine Code.wp_mono (QuietQ.imp (G:=fun _ _ _=>False) (fun _ _ _ h=>h.elim)) ?_
 refine aP.begin 12 (fun(w':World)=>w'.cell? ⟨xb5,0,none⟩=some (c0)∧w'.cell? ⟨xb5,1,none⟩=some (c1)∧w'.cell? ⟨xb5,2,none⟩=some (c2)∧w'.cell? ⟨xb5,3,none⟩=some (c3)∧w'.cell? ⟨xb5,4,none⟩=some (c4)∧w'.cell? ⟨xb5,5,none⟩=some (c5)∧w'.cell? ⟨xb5,6,none⟩=some (c6)∧w'.cell? ⟨xb5,7,none⟩=some (c7)∧w'.cell? ⟨xb5,8,none⟩=some (c8)∧w'.cell? ⟨xb3,0+6,none⟩=some (.bool lz)) (by kernel_rfl) hS (fun hSS=>?_)
 refine aP.take (i:=0) (oi:={ dst:=some 51,op:=Op.move (Operand.tmp 6),type:=28,pos:= "ref.go:112",after:=#[],guard:=none }) (v:=?v0nrb11) ?a0nrb11 ?b0nrb11 ?c0nrb11 ?d0nrb11 ?e0nrb11 (fun _ _ _ h=>h) (Or.inl ⟨?f0nrb11,?y0nrb11⟩) (by assumption) ?r0nrb11
 case a0nrb11=>rfl
 case b0nrb11=>kernel_rfl
 case c0nrb11=>kernel_rfl
 case d0nrb11=>kernel_rfl
 case e0nrb11=>kernel_rfl
 case f0nrb11=>rfl
 case y0nrb11=>(intro w' hSw;(try dsimp only at hSw);obtain⟨s0,s1,s2,s3,s4,s5,s6,s7,s8,s9⟩:=hSw;go_simp;try with_reducible rfl)
 try simp only[Act.put,List.setIfInBounds_toArray,List.set_cons_zero,List.set_cons_succ]
 refine aP.take (i:=1) (oi:={ dst:=some 52,op:=Op.move (Operand.tmp 0),type:=93,pos:= "ref.go:112",after:=#[],guard:=none }) (v:=?v1nrb12) ?a1nrb12 ?b1nrb12 ?c1nrb12 ?d1nrb12 ?e1nrb12 (fun _ _ _ h=>h) (Or.inl ⟨?f1nrb12,?y1nrb12⟩) (by assumption) ?r1nrb12
 case a1nrb12=>rfl
 case b1nrb12=>kernel_rfl
 case c1nrb12=>kernel_rfl
 case d1nrb12=>kernel_rfl
 case e1nrb12=>kernel_rfl
 case f1nrb12=>rfl
 case y1nrb12=>(intro w' hSw;(try dsimp only at hSw);obtain⟨s0,s1,s2,s3,s4,s5,s6,s7,s8,s9⟩:=hSw;go_simp;try with_reducible rfl)
 try simp only[Act.put,List.setIfInBounds_toArray,List.set_cons_zero,List.set_cons_succ]
 refine aP.take (i:=2) (oi:={ dst:=some 53,op:=Op.move (Operand.tmp 0),type:=93,pos:= "ref.go:112",after:=#[],guard:=none }) (v:=?v2nrb13) ?a2nrb13 ?b2nrb13 ?c2nrb13 ?d2nrb13 ?e2nrb13 (fun _ _ _ h=>h) (Or.inl ⟨?f2nrb13,?y2nrb13⟩) (by assumption) ?r2nrb13
 case a2nrb13=>rfl
 case b2nrb13=>kernel_rfl
 case c2nrb13=>kernel_rfl
 case d2nrb13=>kernel_rfl
 case e2nrb13=>kernel_rfl
 case f2nrb13=>rfl
 case y2nrb13=>(intro w' hSw;(try dsimp only at hSw);obtain⟨s0,s1,s2,s3,s4,s5,s6,s7,s8,s9⟩:=hSw;go_simp;try with_reducible rfl)
 try simp only[Act.put,List.setIfInBounds_toArray,List.set_cons_zero,List.set_cons_succ]
 refine aP.take (i:=3) (oi:={ dst:=some 54,op:=Op.load 47 (Operand.tmp 5),type:=47,pos:= "ref.go:112",after:=#[],guard:=none }) (v:=?v3nrb14) ?a3nrb14 ?b3nrb14 ?c3nrb14 ?d3nrb14 ?e3nrb14 (fun _ _ _ h=>h) (Or.inl ⟨?f3nrb14,?y3nrb14⟩) (by assumption) ?r3nrb14
 case a3nrb14=>rfl
 case b3nrb14=>kernel_rfl
 case c3nrb14=>kernel_rfl
 case d3nrb14=>kernel_rfl
 case e3nrb14=>kernel_rfl
 case f3nrb14=>rfl
 case y3nrb14=>(intro w' hSw;(try dsimp only at hSw);obtain⟨s0,s1,s2,s3,s4,s5,s6,s7,s8,s9⟩:=hSw;go_simp;try with_reducible rfl)
 try simp only[Act.put,List.setIfInBounds_toArray,List.set_cons_zero,List.set_cons_succ]
 refine aP.take (i:=6) (oi:={ dst:=some 57,op:=Op.fieldAddr 47 (Operand.tmp 3) 6,type:=0,pos:= "ref.go:112",after:=#[],guard:=none }) (v:=?v6nrb15) ?a6nrb15 ?b6nrb15 ?c6nrb15 ?d6nrb15 ?e6nrb15 (fun _ _ _ h=>h) (Or.inl ⟨?f6nrb15,?y6nrb15⟩) (by assumption) ?r6nrb15
 case a6nrb15=>rfl
 case b6nrb15=>kernel_rfl
 case c6nrb15=>kernel_rfl
 case d6nrb15=>kernel_rfl
 case e6nrb15=>kernel_rfl
 case f6nrb15=>rfl
 case y6nrb15=>(intro w' hSw;(try dsimp only at hSw);obtain⟨s0,s1,s2,s3,s4,s5,s6,s7,s8,s9⟩:=hSw;go_simp;try with_reducible rfl)
 try simp only[Act.put,List.setIfInBounds_toArray,List.set_cons_zero,List.set_cons_succ]
 refine aP.take (i:=7) (oi:={ dst:=some 58,op:=Op.load 4 (Operand.tmp 57),type:=4,pos:= "ref.go:112",after:=#[{ on:=6,ground:=.data }],guard:=none }) (v:=?v7nrb16) ?a7nrb16 ?b7nrb16 ?c7nrb16 ?d7nrb16 ?e7nrb16 (fun _ _ _ h=>h) (Or.inl ⟨?f7nrb16,?y7nrb16⟩) (by assumption) ?r7nrb16
 case a7nrb16=>rfl
 case b7nrb16=>kernel_rfl
 case c7nrb16=>kernel_rfl
 case d7nrb16=>kernel_rfl
 case e7nrb16=>kernel_rfl
 case f7nrb16=>rfl
 case y7nrb16=>(intro w' hSw;(try dsimp only at hSw);obtain⟨s0,s1,s2,s3,s4,s5,s6,s7,s8,s9⟩:=hSw;go_simp;try with_reducible rfl)
 try simp only[Act.put,List.setIfInBounds_toArray,List.set_cons_zero,List.set_cons_succ]
 clear hSS hS
 refine aP.one (i:=4) (o:={ dst:=some 55,op:=Op.call { callee:=Callee.value (Operand.func 44),args:=#[Operand.tmp 53,Operand.tmp 54],argTypes:=#[93, 47] },type:=3,pos:= "ref.go:112",after:=#[{ on:=2,ground:=.data },{ on:=3,ground:=.data }],guard:=none }) ?prb17 ?qrb17 ?_
 case prb17=>kernel_rfl
 case qrb17=>rfl
 intro K' hK
 go_simp
 refine HC1.out.mono ?_
 rintro e w1 ⟨rfl,hG1⟩
 have HG1:=ah hG1
 have HK1:=ah (HKK1.out w1 hG1)
 refine hK.out _ _ (.inr HK1.out.1) ?_;clear hK K' hG1
 try simp only[Act.put,List.setIfInBounds_toArray,List.set_cons_zero,List.set_cons_succ]
 refine aP.one (i:=5) (o:={ dst:=some 56,op:=Op.buildSlice 28 1 #[(0,Operand.tmp 55)],type:=28,pos:= "ref.go:112",after:=#[{ on:=4,ground:=.data }],guard:=none }) ?prb18 ?qrb18 ?_
 case prb18=>kernel_rfl
 case qrb18=>rfl
 intro K' hK
 go_simp
 refine hK.out _ _ (.inr HK1.out.2) ?_;clear hK K'
 try simp only[Act.put,List.setIfInBounds_toArray,List.set_cons_zero,List.set_cons_succ]
 have hS2:(fun(w':World)=>w'.cell? ⟨xb5,0,none⟩=some (c0)∧w'.cell? ⟨xb5,1,none⟩=some (c1)∧w'.cell? ⟨xb5,2,none⟩=some (c2)∧w'.cell? ⟨xb5,3,none⟩=some (c3)∧w'.cell? ⟨xb5,4,none⟩=some (c4)∧w'.cell? ⟨xb5,5,none⟩=some (c5)∧w'.cell? ⟨xb5,6,none⟩=some (c6)∧w'.cell? ⟨xb5,7,none⟩=some (c7)∧w'.cell? ⟨xb5,8,none⟩=some (c8)∧w'.cell? ⟨xb3,0+6,none⟩=some (.bool lz)) (w1.alloc (.cells #[.int .i64 (a:Int)] 3)):=HK1.out.2
 refine aP.take (i:=8) (oi:={ dst:=some 59,op:=Op.build 119 #[(0,Operand.const (Value.int IntKind.i64 102)),(4,Operand.tmp 56),(5,Operand.tmp 58)],type:=119,pos:= "ref.go:112",after:=#[{ on:=5,ground:=.data },{ on:=7,ground:=.data }],guard:=none }) (v:=?v8nrb19) ?a8nrb19 ?b8nrb19 ?c8nrb19 ?d8nrb19 ?e8nrb19 (fun _ _ _ h=>h) (Or.inl ⟨?f8nrb19,?y8nrb19⟩) (by assumption) ?r8nrb19
 case a8nrb19=>rfl
 case b8nrb19=>kernel_rfl
 case c8nrb19=>kernel_rfl
 case d8nrb19=>kernel_rfl
 case e8nrb19=>kernel_rfl
 case f8nrb19=>rfl
 case y8nrb19=>(intro w' hSw;(try dsimp only at hSw);obtain⟨s0,s1,s2,s3,s4,s5,s6,s7,s8,s9⟩:=hSw;go_simp;try with_reducible rfl)
 try simp only[Act.put,List.setIfInBounds_toArray,List.set_cons_zero,List.set_cons_succ]
 clear hS2
 refine aP.one (i:=9) (o:={ dst:=some 60,op:=Op.call { callee:=Callee.value (Operand.func 64),args:=#[Operand.tmp 52,Operand.tmp 59],argTypes:=#[93, 119] },type:=3,pos:= "ref.go:112",after:=#[{ on:=1,ground:=.data },{ on:=8,ground:=.data },{ on:=4,ground:=.chain }],guard:=none }) ?prb20 ?qrb20 ?_
 case prb20=>kernel_rfl
 case qrb20=>rfl
 intro K' hK
 go_simp
 refine(HC2.out w1 HG1.out).mono ?_
 rintro e w3 ⟨rfl,hG2⟩
 have HG2:=ah hG2
 have HK3:=ah (HKK2.out w1 w3 HG1.out hG2)
 refine hK.out _ _ (.inr HK3.out) ?_;clear hK K' hG2
 try simp only[Act.put,List.setIfInBounds_toArray,List.set_cons_zero,List.set_cons_succ]
 refine aP.one (i:=10) (o:={ dst:=some 61,op:=Op.buildSlice 28 1 #[(0,Operand.tmp 60)],type:=28,pos:= "ref.go:112",after:=#[{ on:=9,ground:=.data }],guard:=none }) ?prb21 ?qrb21 ?_
 case prb21=>kernel_rfl
 case qrb21=>rfl
 intro K' hK
 go_simp
 have HA3:=(Upd.refl Nob w3).alloc (.cells #[.int .i64 (n2:Int)] 3)
 refine hK.out _ _ (.inr (HKK3.out w1 w3 _ HG1.out HG2.out (HA3.mono (fun _ _ h=>absurd h aj)))) ?_;clear hK K'
 try simp only[Act.put,List.setIfInBounds_toArray,List.set_cons_zero,List.set_cons_succ]
 refine aP.one (i:=11) (o:={ dst:=some 62,op:=Op.call { callee:=Callee.builtin Builtin.append,args:=#[Operand.tmp 51,Operand.tmp 61],argTypes:=#[28, 28] },type:=28,pos:= "ref.go:112",after:=#[{ on:=0,ground:=.data },{ on:=10,ground:=.data },{ on:=9,ground:=.chain }],guard:=none }) ?prb22 ?qrb22 ?_
 case prb22=>kernel_rfl
 case qrb22=>rfl
 intro K' hK
 obtain⟨hO3,hb3⟩:=HOO.out w1 w3 HG1.out HG2.out
 have P9:=aJ hO3 HA3 (fun _ _=>aj)
 refine step_append_lies _ rfl (.tmp 51) (.tmp 61) 28 rfl base 3 i0 _ 1 8 Try.underlying28 hi0 hz0 hz1 hz2 rfl (by decide) (.slice LA m lc) m vs (by rfl) P9 ⟨w3.heap.size,0,none⟩ 1 1 [.int .i64 (n2:Int)] (by rfl) (by rfl) (World.news_of_block (cs:=#[.int .i64 (n2:Int)]) (t:=3) (fr:=(0,0)) (heap_alloc_new w3 _)) (by intro u hu;simp at hu;subst hu;rfl) (by decide) (by unfold maxLen;omega) (by omega) (by simp;omega) (w3.heap.size+1) (by simp) ?_
 intro gN cN w4 oN gr hat hltN
 have UB:=(HA3.mono (fun _ _ h=>absurd h aj)).grown (F:=fun b=>(Value.slice LA m lc).ownBlock=some b) gr (fun b hb _=>hb)
 refine hK.out _ _ (.inr (HKK3.out w1 w3 w4 HG1.out HG2.out UB)) ?_;clear hK K'
 try simp only[Act.put,List.setIfInBounds_toArray,List.set_cons_zero,List.set_cons_succ]
 refine aP.one (i:=12) (o:={ dst:=some 6,op:=Op.assign (Operand.tmp 62),type:=28,pos:= "ref.go:112",after:=#[{ on:=11,ground:=.data },{ on:=11,ground:=.chain },{ on:=0,ground:=.phase },{ on:=1,ground:=.phase },{ on:=2,ground:=.phase },{ on:=3,ground:=.phase },{ on:=4,ground:=.phase },{ on:=5,ground:=.phase },{ on:=6,ground:=.phase },{ on:=7,ground:=.phase },{ on:=8,ground:=.phase },{ on:=9,ground:=.phase },{ on:=10,ground:=.phase },{ on:=11,ground:=.phase }],guard:=none }) ?prb23 ?qrb23 ?_
 case prb23=>kernel_rfl
 case qrb23=>rfl
 intro K' hK
 go_simp
 refine hK.out _ _ (.inl rfl) ?_;clear hK K'
 refine aP.done ?_ ?_ _
 ·kernel_rfl
 exact HY.out _ _ _ _ _ _ _ _ _ _ _ _ w1 w3 w4 gN cN HG1.out HG2.out UB hat hltN oN
theorem unf_reg7 (Q:Exit→Act→World→Prop) (wr:World) (tb xb3 yb a m lc n sc g o base:Nat) (ad:Addr) (LA:Option Addr) (vs:List Value) (c0 c1 c2 c3 c4 c5 c6 c7 c8:Value) (G1:World→Prop) (x1 x2 x4 x7 x8 x9 x10 x11 x12 x13 x14 x15 x16 x17 x18 x19 x20 x21 x22 x23 x24 x25 x26 x27 x28 x29 x30 x31 x32 x33 x34 x35 x36 x37 x38 x39 x40 x41 x42 x43:Value)
  (hS:(fun(w':World)=>w'.cell? ⟨yb,0+4,none⟩=some (.slice LA m lc)∧w'.cell? ⟨xb3,0+3,none⟩=some (.slice (some ad) n sc)∧w'.cell? ⟨g,o,none⟩=some (c0)∧w'.cell? ⟨g,o+1,none⟩=some (c1)∧w'.cell? ⟨g,o+2,none⟩=some (c2)∧w'.cell? ⟨g,o+3,none⟩=some (c3)∧w'.cell? ⟨g,o+4,none⟩=some (c4)∧w'.cell? ⟨g,o+5,none⟩=some (c5)∧w'.cell? ⟨g,o+6,none⟩=some (c6)∧w'.cell? ⟨g,o+7,none⟩=some (c7)∧w'.cell? ⟨g,o+8,none⟩=some (c8)) wr) (hm:m≤100000) (hmn:(m:Int) < (n:Int)) (hadd:ad.add (m*9)=⟨g,o,none⟩)
  (hC1:Calls Try.prog 44 #[.pointer (some ⟨tb,0,none⟩),.agg #[c0,c1,c2,c3,c4,c5,c6,c7,c8]] wr.drew (fun(e:Ending) (w1:World)=>e=.returned (.int .i64 (a:Int))∧G1 w1)) (hk1:∀(w1:World),G1 w1→(fun(w':World)=>w'.cell? ⟨yb,0+4,none⟩=some (.slice LA m lc)∧w'.cell? ⟨xb3,0+3,none⟩=some (.slice (some ad) n sc)∧w'.cell? ⟨g,o,none⟩=some (c0)∧w'.cell? ⟨g,o+1,none⟩=some (c1)∧w'.cell? ⟨g,o+2,none⟩=some (c2)∧w'.cell? ⟨g,o+3,none⟩=some (c3)∧w'.cell? ⟨g,o+4,none⟩=some (c4)∧w'.cell? ⟨g,o+5,none⟩=some (c5)∧w'.cell? ⟨g,o+6,none⟩=some (c6)∧w'.cell? ⟨g,o+7,none⟩=some (c7)∧w'.cell? ⟨g,o+8,none⟩=some (c8)) w1∧(fun(w':World)=>w'.cell? ⟨yb,0+4,none⟩=some (.slice LA m lc)∧w'.cell? ⟨xb3,0+3,none⟩=some (.slice (some ad) n sc)∧w'.cell? ⟨g,o,none⟩=some (c0)∧w'.cell? ⟨g,o+1,none⟩=some (c1)∧w'.cell? ⟨g,o+2,none⟩=some (c2)∧w'.cell? ⟨g,o+3,none⟩=some (c3)∧w'.cell? ⟨g,o+4,none⟩=some (c4)∧w'.cell? ⟨g,o+5,none⟩=some (c5)∧w'.cell? ⟨g,o+6,none⟩=some (c6)∧w'.cell? ⟨g,o+7,none⟩=some (c7)∧w'.cell? ⟨g,o+8,none⟩=some (c8)) (w1.alloc (.cells #[.int .i64 (a:Int)] 3)))
  (hO:∀(w1:World),G1 w1→w1.ownsRow base 3 1 (.slice LA m lc) m vs∧base≤w1.heap.size∧w1.frozen? ⟨yb,0+4,none⟩=false) (hk3:∀(w1 w4:World),G1 w1→Upd (fun(b:Nat)=>(Value.slice LA m lc).ownBlock=some b) w1 w4→(fun(w':World)=>w'.cell? ⟨yb,0+4,none⟩=some (.slice LA m lc)∧w'.cell? ⟨xb3,0+3,none⟩=some (.slice (some ad) n sc)∧w'.cell? ⟨g,o,none⟩=some (c0)∧w'.cell? ⟨g,o+1,none⟩=some (c1)∧w'.cell? ⟨g,o+2,none⟩=some (c2)∧w'.cell? ⟨g,o+3,none⟩=some (c3)∧w'.cell? ⟨g,o+4,none⟩=some (c4)∧w'.cell? ⟨g,o+5,none⟩=some (c5)∧w'.cell? ⟨g,o+6,none⟩=some (c6)∧w'.cell? ⟨g,o+7,none⟩=some (c7)∧w'.cell? ⟨g,o+8,none⟩=some (c8)) w4∧w4.frozen? ⟨yb,0+4,none⟩=false)
  (hnext:∀(v29 v30 v31 v32 v33 v34 v35 v36 v37 v38 v39 v40:Value) (w1 w4:World) (gN cN:Nat),G1 w1→Upd (fun(b:Nat)=>(Value.slice LA m lc).ownBlock=some b) w1 w4→((Value.slice LA m lc).ownBlock=some gN∨gN=w1.heap.size+1)→gN < w4.heap.size→w4.ownsRow base 3 1 (.slice (some ⟨gN,0,none⟩) (m+1) cN) (m+1) (vs++[.int .i64 (a:Int)])→Q .normal ⟨#[.pointer (some ⟨tb,0,none⟩),x1,x2,.pointer (some ⟨xb3,0,none⟩),x4,.pointer (some ⟨yb,0,none⟩),.int .i64 (m:Int),x7,x8,x9,x10,x11,x12,x13,x14,x15,x16,x17,x18,x19,x20,x21,x22,x23,x24,x25,x26,x27,x28,v29,v30,v31,v32,v33,v34,v35,v36,v37,v38,v39,v40,x41,x42,x43],[]⟩ (w4.setCell ⟨yb,0+4,none⟩ (.slice (some ⟨gN,0,none⟩) (m+1) cN))) :
  (Code.region 7 #[{ dst:=some 29,op:=Op.fieldAddr 119 (Operand.tmp 5) 4,type:=0,pos:= "ref.go:126",after:=#[],guard:=none },{ dst:=some 30,op:=Op.load 28 (Operand.tmp 29),type:=28,pos:= "ref.go:126",after:=#[{ on:=0,ground:=.data }],guard:=none },{ dst:=some 31,op:=Op.move (Operand.tmp 0),type:=93,pos:= "ref.go:126",after:=#[],guard:=none },{ dst:=some 32,op:=Op.fieldAddr 47 (Operand.tmp 3) 3,type:=0,pos:= "ref.go:126",after:=#[],guard:=none },{ dst:=some 33,op:=Op.load 45 (Operand.tmp 32),type:=45,pos:= "ref.go:126",after:=#[{ on:=3,ground:=.data }],guard:=none },{ dst:=some 34,op:=Op.move (Operand.tmp 6),type:=3,pos:= "ref.go:126",after:=#[],guard:=none },{ dst:=some 35,op:=Op.indexAddr 45 (Operand.tmp 33) (Operand.tmp 34),type:=0,pos:= "ref.go:126",after:=#[{ on:=4,ground:=.data },{ on:=5,ground:=.data }],guard:=none },{ dst:=some 36,op:=Op.load 47 (Operand.tmp 35),type:=47,pos:= "ref.go:126",after:=#[{ on:=6,ground:=.data }],guard:=none },{ dst:=some 37,op:=Op.call { callee:=Callee.value (Operand.func 44),args:=#[Operand.tmp 31,Operand.tmp 36],argTypes:=#[93, 47] },type:=3,pos:= "ref.go:126",after:=#[{ on:=2,ground:=.data },{ on:=7,ground:=.data }],guard:=none },{ dst:=some 38,op:=Op.buildSlice 28 1 #[(0,Operand.tmp 37)],type:=28,pos:= "ref.go:126",after:=#[{ on:=8,ground:=.data }],guard:=none },{ dst:=some 39,op:=Op.call { callee:=Callee.builtin Builtin.append,args:=#[Operand.tmp 30,Operand.tmp 38],argTypes:=#[28, 28] },type:=28,pos:= "ref.go:126",after:=#[{ on:=1,ground:=.data },{ on:=9,ground:=.data },{ on:=8,ground:=.chain }],guard:=none },{ dst:=some 40,op:=Op.fieldAddr 119 (Operand.tmp 5) 4,type:=0,pos:= "ref.go:126",after:=#[{ on:=0,ground:=.phase },{ on:=1,ground:=.phase },{ on:=2,ground:=.phase },{ on:=3,ground:=.phase },{ on:=4,ground:=.phase },{ on:=5,ground:=.phase },{ on:=6,ground:=.phase },{ on:=7,ground:=.phase },{ on:=8,ground:=.phase },{ on:=9,ground:=.phase },{ on:=10,ground:=.phase }],guard:=none },{ dst:=none,op:=Op.store 28 (Operand.tmp 40) (Operand.tmp 39),type:=0,pos:= "ref.go:126",after:=#[{ on:=11,ground:=.data },{ on:=10,ground:=.data },{ on:=10,ground:=.chain },{ on:=0,ground:=.phase },{ on:=1,ground:=.phase },{ on:=2,ground:=.phase },{ on:=3,ground:=.phase },{ on:=4,ground:=.phase },{ on:=5,ground:=.phase },{ on:=6,ground:=.phase },{ on:=7,ground:=.phase },{ on:=8,ground:=.phase },{ on:=9,ground:=.phase },{ on:=10,ground:=.phase }],guard:=none }] true).wp Try.prog Q ⟨#[.pointer (some ⟨tb,0,none⟩),x1,x2,.pointer (some ⟨xb3,0,none⟩),x4,.pointer (some ⟨yb,0,none⟩),.int .i64 (m:Int),x7,x8,x9,x10,x11,x12,x13,x14,x15,x16,x17,x18,x19,x20,x21,x22,x23,x24,x25,x26,x27,x28,x29,x30,x31,x32,x33,x34,x35,x36,x37,x38,x39,x40,x41,x42,x43],[]⟩ wr:=by
 obtain⟨i0,hi0,hz0,hz1,hz2⟩:=info_parts iw
 have HC1:=ah hC1
 have HKK1:=ah hk1
 have HKK3:=ah hk3
 have HOO:=ah hO
 have HY:=ah hnext
 clear hC1 hk1 hk3 hO hnext
 refine Code.wp_mono (QuietQ.imp (G:=fun _ _ _=>False) (fun _ _ _ h=>h.elim)) ?_
 refine aP.begin 12 (fun(w':World)=>w'.cell? ⟨yb,0+4,none⟩=some (.slice LA m lc)∧w'.cell? ⟨xb3,0+3,none⟩=some (.slice (some ad) n sc)∧w'.cell? ⟨g,o,none⟩=some (c0)∧w'.cell? ⟨g,o+1,none⟩=some (c1)∧w'.cell? ⟨g,o+2,none⟩=some (c2)∧w'.cell? ⟨g,o+3,none⟩=some (c3)∧w'.cell? ⟨g,o+4,none⟩=some (c4)∧w'.cell? ⟨g,o+5,none⟩=some (c5)∧w'.cell? ⟨g,o+6,none⟩=some (c6)∧w'.cell? ⟨g,o+7,none⟩=some (c7)∧w'.cell? ⟨g,o+8,none⟩=some (c8)) (by kernel_rfl) hS (fun hSS=>?_)
 refine aP.take (i:=0) (oi:={ dst:=some 29,op:=Op.fieldAddr 119 (Operand.tmp 5) 4,type:=0,pos:= "ref.go:126",after:=#[],guard:=none }) (v:=?v0nrc24) ?a0nrc24 ?b0nrc24 ?c0nrc24 ?d0nrc24 ?e0nrc24 (fun _ _ _ h=>h) (Or.inl ⟨?f0nrc24,?y0nrc24⟩) (by assumption) ?r0nrc24
 case a0nrc24=>rfl
 case b0nrc24=>kernel_rfl
 case c0nrc24=>kernel_rfl
 case d0nrc24=>kernel_rfl
 case e0nrc24=>kernel_rfl
 case f0nrc24=>rfl
 case y0nrc24=>(intro w' hSw;(try dsimp only at hSw);obtain⟨s0,s1,s2,s3,s4,s5,s6,s7,s8,s9,s10⟩:=hSw;go_simp;try with_reducible rfl)
 try simp only[Act.put,List.setIfInBounds_toArray,List.set_cons_zero,List.set_cons_succ]
 refine aP.take (i:=1) (oi:={ dst:=some 30,op:=Op.load 28 (Operand.tmp 29),type:=28,pos:= "ref.go:126",after:=#[{ on:=0,ground:=.data }],guard:=none }) (v:=?v1nrc25) ?a1nrc25 ?b1nrc25 ?c1nrc25 ?d1nrc25 ?e1nrc25 (fun _ _ _ h=>h) (Or.inl ⟨?f1nrc25,?y1nrc25⟩) (by assumption) ?r1nrc25
 case a1nrc25=>rfl
 case b1nrc25=>kernel_rfl
 case c1nrc25=>kernel_rfl
 case d1nrc25=>kernel_rfl
 case e1nrc25=>kernel_rfl
 case f1nrc25=>rfl
 case y1nrc25=>(intro w' hSw;(try dsimp only at hSw);obtain⟨s0,s1,s2,s3,s4,s5,s6,s7,s8,s9,s10⟩:=hSw;go_simp;try with_reducible rfl)
 try simp only[Act.put,List.setIfInBounds_toArray,List.set_cons_zero,List.set_cons_succ]
 refine aP.take (i:=2) (oi:={ dst:=some 31,op:=Op.move (Operand.tmp 0),type:=93,pos:= "ref.go:126",after:=#[],guard:=none }) (v:=?v2nrc26) ?a2nrc26 ?b2nrc26 ?c2nrc26 ?d2nrc26 ?e2nrc26 (fun _ _ _ h=>h) (Or.inl ⟨?f2nrc26,?y2nrc26⟩) (by assumption) ?r2nrc26
 case a2nrc26=>rfl
 case b2nrc26=>kernel_rfl
 case c2nrc26=>kernel_rfl
 case d2nrc26=>kernel_rfl
 case e2nrc26=>kernel_rfl
 case f2nrc26=>rfl
 case y2nrc26=>(intro w' hSw;(try dsimp only at hSw);obtain⟨s0,s1,s2,s3,s4,s5,s6,s7,s8,s9,s10⟩:=hSw;go_simp;try with_reducible rfl)
 try simp only[Act.put,List.setIfInBounds_toArray,List.set_cons_zero,List.set_cons_succ]
 refine aP.take (i:=3) (oi:={ dst:=some 32,op:=Op.fieldAddr 47 (Operand.tmp 3) 3,type:=0,pos:= "ref.go:126",after:=#[],guard:=none }) (v:=?v3nrc27) ?a3nrc27 ?b3nrc27 ?c3nrc27 ?d3nrc27 ?e3nrc27 (fun _ _ _ h=>h) (Or.inl ⟨?f3nrc27,?y3nrc27⟩) (by assumption) ?r3nrc27
 case a3nrc27=>rfl
 case b3nrc27=>kernel_rfl
 case c3nrc27=>kernel_rfl
 case d3nrc27=>kernel_rfl
 case e3nrc27=>kernel_rfl
 case f3nrc27=>rfl
 case y3nrc27=>(intro w' hSw;(try dsimp only at hSw);obtain⟨s0,s1,s2,s3,s4,s5,s6,s7,s8,s9,s10⟩:=hSw;go_simp;try with_reducible rfl)
 try simp only[Act.put,List.setIfInBounds_toArray,List.set_cons_zero,List.set_cons_succ]
 refine aP.take (i:=4) (oi:={ dst:=some 33,op:=Op.load 45 (Operand.tmp 32),type:=45,pos:= "ref.go:126",after:=#[{ on:=3,ground:=.data }],guard:=none }) (v:=?v4nrc28) ?a4nrc28 ?b4nrc28 ?c4nrc28 ?d4nrc28 ?e4nrc28 (fun _ _ _ h=>h) (Or.inl ⟨?f4nrc28,?y4nrc28⟩) (by assumption) ?r4nrc28
 case a4nrc28=>rfl
 case b4nrc28=>kernel_rfl
 case c4nrc28=>kernel_rfl
 case d4nrc28=>kernel_rfl
 case e4nrc28=>kernel_rfl
 case f4nrc28=>rfl
 case y4nrc28=>(intro w' hSw;(try dsimp only at hSw);obtain⟨s0,s1,s2,s3,s4,s5,s6,s7,s8,s9,s10⟩:=hSw;go_simp;try with_reducible rfl)
 try simp only[Act.put,List.setIfInBounds_toArray,List.set_cons_zero,List.set_cons_succ]
 refine aP.take (i:=5) (oi:={ dst:=some 34,op:=Op.move (Operand.tmp 6),type:=3,pos:= "ref.go:126",after:=#[],guard:=none }) (v:=?v5nrc29) ?a5nrc29 ?b5nrc29 ?c5nrc29 ?d5nrc29 ?e5nrc29 (fun _ _ _ h=>h) (Or.inl ⟨?f5nrc29,?y5nrc29⟩) (by assumption) ?r5nrc29
 case a5nrc29=>rfl
 case b5nrc29=>kernel_rfl
 case c5nrc29=>kernel_rfl
 case d5nrc29=>kernel_rfl
 case e5nrc29=>kernel_rfl
 case f5nrc29=>rfl
 case y5nrc29=>(intro w' hSw;(try dsimp only at hSw);obtain⟨s0,s1,s2,s3,s4,s5,s6,s7,s8,s9,s10⟩:=hSw;go_simp;try with_reducible rfl)
 try simp only[Act.put,List.setIfInBounds_toArray,List.set_cons_zero,List.set_cons_succ]
 refine aP.take (i:=6) (oi:={ dst:=some 35,op:=Op.indexAddr 45 (Operand.tmp 33) (Operand.tmp 34),type:=0,pos:= "ref.go:126",after:=#[{ on:=4,ground:=.data },{ on:=5,ground:=.data }],guard:=none }) (v:=?v6nrc30) ?a6nrc30 ?b6nrc30 ?c6nrc30 ?d6nrc30 ?e6nrc30 (fun _ _ _ h=>h) (Or.inl ⟨?f6nrc30,?y6nrc30⟩) (by assumption) ?r6nrc30
 case a6nrc30=>rfl
 case b6nrc30=>kernel_rfl
 case c6nrc30=>kernel_rfl
 case d6nrc30=>kernel_rfl
 case e6nrc30=>kernel_rfl
 case f6nrc30=>rfl
 case y6nrc30=>(intro w' hSw;(try dsimp only at hSw);obtain⟨s0,s1,s2,s3,s4,s5,s6,s7,s8,s9,s10⟩:=hSw;go_simp;try with_reducible rfl)
 try simp only[Act.put,List.setIfInBounds_toArray,List.set_cons_zero,List.set_cons_succ]
 refine aP.take (i:=7) (oi:={ dst:=some 36,op:=Op.load 47 (Operand.tmp 35),type:=47,pos:= "ref.go:126",after:=#[{ on:=6,ground:=.data }],guard:=none }) (v:=?v7nrc31) ?a7nrc31 ?b7nrc31 ?c7nrc31 ?d7nrc31 ?e7nrc31 (fun _ _ _ h=>h) (Or.inl ⟨?f7nrc31,?y7nrc31⟩) (by assumption) ?r7nrc31
 case a7nrc31=>rfl
 case b7nrc31=>kernel_rfl
 case c7nrc31=>kernel_rfl
 case d7nrc31=>kernel_rfl
 case e7nrc31=>kernel_rfl
 case f7nrc31=>rfl
 case y7nrc31=>(intro w' hSw;(try dsimp only at hSw);obtain⟨s0,s1,s2,s3,s4,s5,s6,s7,s8,s9,s10⟩:=hSw;go_simp;try with_reducible rfl)
 try simp only[Act.put,List.setIfInBounds_toArray,List.set_cons_zero,List.set_cons_succ]
 clear hSS hS
 refine aP.one (i:=8) (o:={ dst:=some 37,op:=Op.call { callee:=Callee.value (Operand.func 44),args:=#[Operand.tmp 31,Operand.tmp 36],argTypes:=#[93, 47] },type:=3,pos:= "ref.go:126",after:=#[{ on:=2,ground:=.data },{ on:=7,ground:=.data }],guard:=none }) ?prc32 ?qrc32 ?_
 case prc32=>kernel_rfl
 case qrc32=>rfl
 intro K' hK
 go_simp
 refine HC1.out.mono ?_
 rintro e w1 ⟨rfl,hG1⟩
 have HG1:=ah hG1
 have HK1:=ah (HKK1.out w1 hG1)
 refine hK.out _ _ (.inr HK1.out.1) ?_;clear hK K' hG1
 try simp only[Act.put,List.setIfInBounds_toArray,List.set_cons_zero,List.set_cons_succ]
 refine aP.one (i:=9) (o:={ dst:=some 38,op:=Op.buildSlice 28 1 #[(0,Operand.tmp 37)],type:=28,pos:= "ref.go:126",after:=#[{ on:=8,ground:=.data }],guard:=none }) ?prc33 ?qrc33 ?_
 case prc33=>kernel_rfl
 case qrc33=>rfl
 intro K' hK
 go_simp
 refine hK.out _ _ (.inr HK1.out.2) ?_;clear hK K'
 try simp only[Act.put,List.setIfInBounds_toArray,List.set_cons_zero,List.set_cons_succ]
 refine aP.one (i:=10) (o:={ dst:=some 39,op:=Op.call { callee:=Callee.builtin Builtin.append,args:=#[Operand.tmp 30,Operand.tmp 38],argTypes:=#[28, 28] },type:=28,pos:= "ref.go:126",after:=#[{ on:=1,ground:=.data },{ on:=9,ground:=.data },{ on:=8,ground:=.chain }],guard:=none }) ?prc34 ?qrc34 ?_
 case prc34=>kernel_rfl
 case qrc34=>rfl
 intro K' hK
 obtain⟨hO3,hb3,-⟩:=HOO.out w1 HG1.out
 have HA3:=(Upd.refl Nob w1).alloc (.cells #[.int .i64 (a:Int)] 3)
 have P9:=aJ hO3 HA3 (fun _ _=>aj)
 refine step_append_lies _ rfl (.tmp 30) (.tmp 38) 28 rfl base 3 i0 _ 1 8 Try.underlying28 hi0 hz0 hz1 hz2 rfl (by decide) (.slice LA m lc) m vs (by rfl) P9 ⟨w1.heap.size,0,none⟩ 1 1 [.int .i64 (a:Int)] (by rfl) (by rfl) (World.news_of_block (cs:=#[.int .i64 (a:Int)]) (t:=3) (fr:=(0,0)) (heap_alloc_new w1 _)) (by intro u hu;simp at hu;subst hu;rfl) (by decide) (by unfold maxLen;omega) (by omega) (by simp;omega) (w1.heap.size+1) (by simp) ?_
 intro gN cN w4 oN gr hat hltN
 have UB:=(HA3.mono (fun _ _ h=>absurd h aj)).grown (F:=fun b=>(Value.slice LA m lc).ownBlock=some b) gr (fun b hb _=>hb)
 have HK4:=HKK3.out w1 w4 HG1.out UB
 refine hK.out _ _ (.inr HK4.1) ?_;clear hK K'
 try simp only[Act.put,List.setIfInBounds_toArray,List.set_cons_zero,List.set_cons_succ]
 have hS2:(fun(w':World)=>w'.cell? ⟨yb,0+4,none⟩=some (.slice LA m lc)∧w'.cell? ⟨xb3,0+3,none⟩=some (.slice (some ad) n sc)∧w'.cell? ⟨g,o,none⟩=some (c0)∧w'.cell? ⟨g,o+1,none⟩=some (c1)∧w'.cell? ⟨g,o+2,none⟩=some (c2)∧w'.cell? ⟨g,o+3,none⟩=some (c3)∧w'.cell? ⟨g,o+4,none⟩=some (c4)∧w'.cell? ⟨g,o+5,none⟩=some (c5)∧w'.cell? ⟨g,o+6,none⟩=some (c6)∧w'.cell? ⟨g,o+7,none⟩=some (c7)∧w'.cell? ⟨g,o+8,none⟩=some (c8)) w4:=HK4.1
 refine aP.take (i:=11) (oi:={ dst:=some 40,op:=Op.fieldAddr 119 (Operand.tmp 5) 4,type:=0,pos:= "ref.go:126",after:=#[{ on:=0,ground:=.phase },{ on:=1,ground:=.phase },{ on:=2,ground:=.phase },{ on:=3,ground:=.phase },{ on:=4,ground:=.phase },{ on:=5,ground:=.phase },{ on:=6,ground:=.phase },{ on:=7,ground:=.phase },{ on:=8,ground:=.phase },{ on:=9,ground:=.phase },{ on:=10,ground:=.phase }],guard:=none }) (v:=?v11nrc35) ?a11nrc35 ?b11nrc35 ?c11nrc35 ?d11nrc35 ?e11nrc35 (fun _ _ _ h=>h) (Or.inl ⟨?f11nrc35,?y11nrc35⟩) (by assumption) ?r11nrc35
 case a11nrc35=>rfl
 case b11nrc35=>kernel_rfl
 case c11nrc35=>kernel_rfl
 case d11nrc35=>kernel_rfl
 case e11nrc35=>kernel_rfl
 case f11nrc35=>rfl
 case y11nrc35=>(intro w' hSw;(try dsimp only at hSw);obtain⟨s0,s1,s2,s3,s4,s5,s6,s7,s8,s9,s10⟩:=hSw;go_simp;try with_reducible rfl)
 try simp only[Act.put,List.setIfInBounds_toArray,List.set_cons_zero,List.set_cons_succ]
 obtain⟨s0,s1,s2,s3,s4,s5,s6,s7,s8,s9,s10⟩:=hS2
 have z4:=HK4.2
 refine aP.one (i:=12) (o:={ dst:=none,op:=Op.store 28 (Operand.tmp 40) (Operand.tmp 39),type:=0,pos:= "ref.go:126",after:=#[{ on:=11,ground:=.data },{ on:=10,ground:=.data },{ on:=10,ground:=.chain },{ on:=0,ground:=.phase },{ on:=1,ground:=.phase },{ on:=2,ground:=.phase },{ on:=3,ground:=.phase },{ on:=4,ground:=.phase },{ on:=5,ground:=.phase },{ on:=6,ground:=.phase },{ on:=7,ground:=.phase },{ on:=8,ground:=.phase },{ on:=9,ground:=.phase },{ on:=10,ground:=.phase }],guard:=none }) ?prc36 ?qrc36 ?_
 case prc36=>kernel_rfl
 case qrc36=>rfl
 intro K' hK
 go_simp
 refine hK.out _ _ (.inl rfl) ?_;clear hK K'
 refine aP.done ?_ ?_ _
 ·kernel_rfl
 exact HY.out _ _ _ _ _ _ _ _ _ _ _ _ w1 w4 gN cN HG1.out UB hat hltN oN
end Go.Proofs.Ytnkefclbchpafaa

/-
  The walk of heronref06's Tree.repeat. Printed by tools/mkRepeat.py.
-/
namespace Go.Proofs.Ytnkefclbchpafaa
set_option maxRecDepth 100000
set_option maxHeartbeats 16000000
open Go.RowKit
set_option linter.unusedVariables false
theorem repT_star {f:Uf} {mn mx:Int} {lz:Bool} (h:mx < 0) (h0:mn=0) (l:List PN):iJ f mn mx lz l=dA (aX 101 [(f l).2] lz) (f l).1:=by
 unfold iJ
 rw[if_pos ⟨h,h0⟩]
theorem rep_star {base tb:Nat} {S:Nat→Prop} {t x:Tree} {f:Uf} {u:UT} (hF:UnfC base tb S x f) (hg:fJ f u) (hx0:t.subs[0]?=some x) (hmx:t.mx < 0) (hmn:t.mn=0):∀(D:Nat→Prop) (w:World) (l:List PN) (TA:Option Addr) (tc:Nat) (cs:Array Value),dZ w base tb S D l TA tc→aB w S cs t→(iJ f t.mn t.mx t.lz l).1.length≤90000→Calls Try.prog 63 #[.pointer (some ⟨tb,0,none⟩),.agg cs] w (TAns base tb S D w TA (iJ f t.mn t.mx t.lz l)):=by
 intro D w l TA tc cs hT hN hlen
 obtain⟨RA,rc,SA,sc,rfl,-⟩:=hN.top
 have htb:=hT.size
 have hfl:=hg.len l
 rw[repT_star hmx hmn] at hlen ⊢
 have hpl:=dJ (aX 101 [(f l).2] t.lz) (f l).1
 have hfle:(f l).1.length≤89999:=by omega
 have hsb:∀s∈(aX 101 [(f l).2] t.lz).subs,s < (f l).1.length:=by simp[aX];exact hfl.2
 have HMN:=ah hmn
 clear hpl hlen hmn
 have hpos:0 < t.subs.length:=(List.getElem?_eq_some_iff.1 hx0).1
 have hposI:(0:Int) < (t.subs.length:Int):=by omega
 obtain⟨ad,g,o,x',PA,pc,QA,qc,rfl,hadd,hSg,hgl,hx,hX,hlx,hcs⟩:=aB.sub hN.open_.2.2 hpos
 have hxe:x=x':=by rw[hx0] at hx;injection hx
 subst hxe
 have hA1:Upd Nob w (w.alloc (.cells #[.int .i64 t.kind,.slice RA t.rs.length rc,.int .i64 t.am,.slice (some ad) t.subs.length sc,.int .i64 t.mn,.int .i64 t.mx,.bool t.lz,.int .i64 t.ix,.string t.nm] 47)):=(Upd.refl Nob w).alloc _
 have hA2:Upd Nob w ((w.alloc (.cells #[.int .i64 t.kind,.slice RA t.rs.length rc,.int .i64 t.am,.slice (some ad) t.subs.length sc,.int .i64 t.mn,.int .i64 t.mx,.bool t.lz,.int .i64 t.ix,.string t.nm] 47)).alloc (.cells #[.int .i64 x.kind,.slice PA x.rs.length pc,.int .i64 x.am,.slice QA x.subs.length qc,.int .i64 x.mn,.int .i64 x.mx,.bool x.lz,.int .i64 x.ix,.string x.nm] 47)):=hA1.alloc _
 have hz1:(w.alloc (.cells #[.int .i64 t.kind,.slice RA t.rs.length rc,.int .i64 t.am,.slice (some ad) t.subs.length sc,.int .i64 t.mn,.int .i64 t.mx,.bool t.lz,.int .i64 t.ix,.string t.nm] 47)).heap.size=w.heap.size+1:=World.size_alloc _ _
 have C3:=(Cells.new w 47 #[.int .i64 t.kind,.slice RA t.rs.length rc,.int .i64 t.am,.slice (some ad) t.subs.length sc,.int .i64 t.mn,.int .i64 t.mx,.bool t.lz,.int .i64 t.ix,.string t.nm]).upd ((Upd.refl Nob _).alloc (.cells #[.int .i64 x.kind,.slice PA x.rs.length pc,.int .i64 x.am,.slice QA x.subs.length qc,.int .i64 x.mn,.int .i64 x.mx,.bool x.lz,.int .i64 x.ix,.string x.nm] 47)) aj
 have C5:=Cells.new (w.alloc (.cells #[.int .i64 t.kind,.slice RA t.rs.length rc,.int .i64 t.am,.slice (some ad) t.subs.length sc,.int .i64 t.mn,.int .i64 t.mx,.bool t.lz,.int .i64 t.ix,.string t.nm] 47)) 47 #[.int .i64 x.kind,.slice PA x.rs.length pc,.int .i64 x.am,.slice QA x.subs.length qc,.int .i64 x.mn,.int .i64 x.mx,.bool x.lz,.int .i64 x.ix,.string x.nm]
 rw[hz1] at C5
 obtain⟨e0,e1,e2,e3,e4,e5,e6,e7,e8⟩:=aI (Cells.new w 47 #[.int .i64 t.kind,.slice RA t.rs.length rc,.int .i64 t.am,.slice (some ad) t.subs.length sc,.int .i64 t.mn,.int .i64 t.mx,.bool t.lz,.int .i64 t.ix,.string t.nm])
 obtain⟨p0,p1,p2,p3,p4,p5,p6,p7,p8⟩:=bH (fun j v hv=>(hA1.cell (p:=⟨g,o+j,none⟩) hgl aj).trans (hcs j v hv))
 have HA0:=ah (TNx.aM hT hA2)
 have HT:=ah hT
 have HNX:=ah (hX.bA hA2 (fun _ _=>aj))
 have hn3:¬TabF tb TA w.heap.size:=fun h=>by
  rcases h with h | h
  ·omega
  ·have:=(hT.gQ _ h).2;omega
 have hn5:¬TabF tb TA (w.heap.size+1):=fun h=>by
  rcases h with h | h
  ·omega
  ·have:=(hT.gQ _ h).2;omega
 have HN3:=ah hn3
 have HN5:=ah hn5
 have HF:=ah hF
 have HC3:=ah C3
 have HC5:=ah C5
 unfold au at HNX ⊢
 clear hT hN hX hcs hx hlx hA1 hA2 hn3 hn5 hF C3 C5 hx0
 go_enter Try.func63,Try.ntmps63
 go_upto_region 1 with fail
 generalize w.alloc (.cells #[.int .i64 t.kind,.slice RA t.rs.length rc,.int .i64 t.am,.slice (some ad) t.subs.length sc,.int .i64 t.mn,.int .i64 t.mx,.bool t.lz,.int .i64 t.ix,.string t.nm] 47)=wa at *
 go_upto_region 2 with fail
 generalize wa.alloc (.cells #[.int .i64 x.kind,.slice PA x.rs.length pc,.int .i64 x.am,.slice QA x.subs.length qc,.int .i64 x.mn,.int .i64 x.mx,.bool x.lz,.int .i64 x.ix,.string x.nm] 47)=wb at *
 clear e0 e1 e2 e3 e4 e5 e6 e7 e8 p0 p1 p2 p3 p4 p5 p6 p7 p8 hadd hz1
 generalize w.heap.size+1=xb5 at *
 generalize hxb:w.heap.size=xb3 at *
 have HXB:=ah hxb
 clear hxb
 obtain⟨e0,e1,e2,e3,e4,e5,e6,e7,e8⟩:=aI HC3.out
 have SPP:=ah (show ∀w':World,Cells w' xb5 47 #[.int .i64 x.kind,.slice PA x.rs.length pc,.int .i64 x.am,.slice QA x.subs.length qc,.int .i64 x.mn,.int .i64 x.mx,.bool x.lz,.int .i64 x.ix,.string x.nm]→Cells w' xb3 47 #[.int .i64 t.kind,.slice RA t.rs.length rc,.int .i64 t.am,.slice (some ad) t.subs.length sc,.int .i64 t.mn,.int .i64 t.mx,.bool t.lz,.int .i64 t.ix,.string t.nm]→(fun(w':World)=>w'.cell? ⟨xb5,0,none⟩=some (.int .i64 x.kind)∧w'.cell? ⟨xb5,1,none⟩=some (.slice PA x.rs.length pc)∧w'.cell? ⟨xb5,2,none⟩=some (.int .i64 x.am)∧w'.cell? ⟨xb5,3,none⟩=some (.slice QA x.subs.length qc)∧w'.cell? ⟨xb5,4,none⟩=some (.int .i64 x.mn)∧w'.cell? ⟨xb5,5,none⟩=some (.int .i64 x.mx)∧w'.cell? ⟨xb5,6,none⟩=some (.bool x.lz)∧w'.cell? ⟨xb5,7,none⟩=some (.int .i64 x.ix)∧w'.cell? ⟨xb5,8,none⟩=some (.string x.nm)∧w'.cell? ⟨xb3,0+6,none⟩=some (.bool t.lz)) w' from fun w' h5 h3=>⟨h5.ak rfl,h5.ak rfl,h5.ak rfl,h5.ak rfl,h5.ak rfl,h5.ak rfl,h5.ak rfl,h5.ak rfl,h5.ak rfl,h3.ak rfl⟩)
 have hd1:decide (t.mx < 0)=true:=decide_eq_true hmx
 have hd2:(t.mn==0)=true:=by rw[HMN.out];rfl
 go_upto_region 3 with fail
 clear e0 e1 e2 e3 e4 e5 e6 e7 e8
 have hUd:=(Upd.refl Nob wb).drew
 have HD3:=ah (fun(l':List PN) (w':World) (T':Option Addr) (c':Nat) (h:TNx base tb S D wb.drew TA l' w' T' c')=>(HC3.out.upd hUd aj).upd h.upd HN3.out)
 have HD5:=ah (fun(l':List PN) (w':World) (T':Option Addr) (c':Nat) (h:TNx base tb S D wb.drew TA l' w' T' c')=>(HC5.out.upd hUd aj).upd h.upd HN5.out)
 have HTD:=ah (HA0.out.tab.upd hUd)
 have htd:=HTD.out.size
 have HAL:=ah (fun(w1:World) (T1:Option Addr) (c1:Nat) (h:TNx base tb S D wb.drew TA (f l).1 w1 T1 c1)=>h.trans (TNx.aM h.tab ((Upd.refl Nob w1).alloc (.cells #[.int .i64 ((f l).2:Int)] 3))) htd)
 refine rep_reg3 _ wb tb xb3 xb5 (f l).2 (f l).1.length t.lz (.int .i64 x.kind) (.slice PA x.rs.length pc) (.int .i64 x.am) (.slice QA x.subs.length qc) (.int .i64 x.mn) (.int .i64 x.mx) (.bool x.lz) (.int .i64 x.ix) (.string x.nm) (fun w1=>∃T1 c1,TNx base tb S D wb.drew TA (f l).1 w1 T1 c1) (fun w1 w3=>∃T3 c3,TNx base tb S D wb.drew TA (dA (aX 101 [(f l).2] t.lz) (f l).1).1 w3 T3 c3) _ _ _ _ _ _ _ _ _ _ _ _ _ _ _ _ _ _ _ _ _ _ _ _ _ _ _ _ _ _ _ _ _ _ _ _ _ _ _ _ _ _ _ _ _ _ _ _ _ _ _ _ _ _ _ _ _ _ _ _ _ _ _ _ _ _ _ _ _ _ _ _ _ _ _ _ _ _ _ _ _ (SPP.out _ HC5.out HC3.out) ?_ ?_ ?_ ?_ ?_
 ·refine(HF.out D wb.drew l TA tc _ HTD.out (HNX.out.bA hUd (fun _ _=>aj)) (by omega)).mono ?_
  rintro e w1 ⟨rfl,T1,c1,h1⟩
  exact⟨rfl,T1,c1,h1⟩
 ·rintro w1 ⟨T1,c1,h1⟩
  have h2:=HAL.out w1 T1 c1 h1
  exact⟨SPP.out _ (HD5.out _ _ _ _ h1) (HD3.out _ _ _ _ h1),SPP.out _ (HD5.out _ _ _ _ h2) (HD3.out _ _ _ _ h2)⟩
 ·rintro w1 ⟨T1,c1,h1⟩
  have h2:=HAL.out w1 T1 c1 h1
  refine(jT (x:=aX 101 [(f l).2] t.lz) (q:=((none,0),(some ⟨w1.heap.size,0,none⟩,1))) h2.tab (jI (one_own (f l).2 h1.tab.eO)) (fun b hb hd=>by have:=h1.tab.d b hd;simp[Value.ownBlock] at hb;omega) hsb (by omega) (by simp[aX])).mono ?_
  rintro e w3 ⟨rfl,T3,c3,h3⟩
  exact⟨rfl,T3,c3,h2.trans h3 htd⟩
 ·rintro w1 w3 ⟨T1,c1,h1⟩ ⟨T3,c3,h3⟩
  exact SPP.out _ (HD5.out _ _ _ _ h3) (HD3.out _ _ _ _ h3)
 ·intro _ _ _ _ _ _ _ _ _ w1 w3 h1 h3
  obtain⟨T3,c3,h3⟩:=h3
  have HH3:=ah h3
  clear h1 h3
  go_wp2_with fail
  go_ret
  exact⟨rfl,T3,c3,(HA0.out.trans (TNx.aM HA0.out.tab hUd) (by rw[HXB.out];exact htb)).trans HH3.out (by rw[HXB.out];exact htb)⟩
theorem TNx.growO {base tb:Nat} {S D1 D:Nat→Prop} {w w1 w2:World} {l:List PN} {TA T1:Option Addr} {c1:Nat} {v:Value} (h:TNx base tb S D1 w TA l w1 T1 c1) (ht:dZ w2 base tb S D l T1 c1) (hg:∀b,v.ownBlock=some b→w.heap.size≤b) (hU:Upd (fun b=>v.ownBlock=some b) w1 w2):TNx base tb S D w TA l w2 T1 c1 :=
 ⟨ht,h.upd.trans hU (fun b hb e=>by have:=hg b e;omega),h.new⟩
theorem times_len {f:Uf} {u:UT} (hg:fJ f u) (n:Nat) (l:List PN):l.length≤(aF f n l).1.length:=(times_good hg n l).1.len
theorem jH (ss:List Nat) (a:Nat):bn (ss.map fun(s:Nat)=>(s:Int))++[.int .i64 (a:Int)]=bn ((ss++[a]).map fun(s:Nat)=>(s:Int)):=by simp[bn]
theorem jL {f:Uf} {mn mx:Int} {lz:Bool} {N:Nat} (h:¬mx < 0) (h0:¬mn < mx) (hN:mn=(N:Int)) (l:List PN):iJ f mn mx lz l=iK (aF f N l).2 (aF f N l).1:=by
 unfold iJ
 rw[if_neg (by omega)]
 simp only[if_neg h,if_neg h0]
 rw[show mn.toNat=N by omega]
theorem repT_opt {f:Uf} {mn mx:Int} {lz:Bool} {N K:Nat} (h:¬mx < 0) (h0:mn < mx) (hN:mn=(N:Int)) (hK:mx - mn=(K:Int)) (l:List PN):iJ f mn mx lz l=iK ((aF f N l).2++[(fZ f lz K (aF f N l).1).2]) (fZ f lz K (aF f N l).1).1:=by
 unfold iJ
 rw[if_neg (by omega)]
 simp only[if_neg h,if_pos h0]
 rw[show mn.toNat=N by omega,show(mx - mn).toNat=K by omega]
theorem repT_plus {f:Uf} {mn mx:Int} {lz:Bool} {N:Nat} (h:mx < 0) (hN:mn=(N:Int)+1) (l:List PN):iJ f mn mx lz l=iK ((aF f N l).2++[(dA (aX 102 [(f (aF f N l).1).2] lz) (f (aF f N l).1).1).2]) (dA (aX 102 [(f (aF f N l).1).2] lz) (f (aF f N l).1).1).1:=by
 unfold iJ
 rw[if_neg (by omega)]
 simp only[if_pos h]
 rw[show(mn - 1).toNat=N by omega]
theorem rep_same {base tb:Nat} {S:Nat→Prop} {t x:Tree} {f:Uf} {u:UT} (hF:UnfC base tb S x f) (hg:fJ f u) (hx0:t.subs[0]?=some x) (hmx:¬t.mx < 0) (hmn:0≤t.mn) (hmn2:t.mn≤1000) (hmm:¬t.mn < t.mx):∀(D:Nat→Prop) (w:World) (l:List PN) (TA:Option Addr) (tc:Nat) (cs:Array Value),dZ w base tb S D l TA tc→aB w S cs t→(iJ f t.mn t.mx t.lz l).1.length≤90000→Calls Try.prog 63 #[.pointer (some ⟨tb,0,none⟩),.agg cs] w (TAns base tb S D w TA (iJ f t.mn t.mx t.lz l)):=by
 intro D w l TA tc cs hT hN hlen
 obtain⟨RA,rc,SA,sc,rfl,-⟩:=hN.top
 have htb:=hT.size
 have hfl:=hg.len l
 obtain⟨N,hN0⟩:∃N:Nat,t.mn=(N:Int):=⟨t.mn.toNat,by omega⟩
 obtain⟨q,hq⟩:∃q,aF f N l=q:=⟨_,rfl⟩
 rw[jL hmx hmm hN0,hq] at hlen ⊢
 have hrl:=kW q.2 q.1
 have hql:q.1.length≤90000:=by omega
 obtain⟨i0,hi0,hz0,hz1,hz2⟩:=info_parts iw
 have HN0:=ah hN0
 have HQ:=ah hq
 have hN1:N≤1000:=by omega
 have HMM:=ah hmm
 clear hrl hlen hN0 hq hmm
 have hpos:0 < t.subs.length:=(List.getElem?_eq_some_iff.1 hx0).1
 have hposI:(0:Int) < (t.subs.length:Int):=by omega
 obtain⟨ad,g,o,x',PA,pc,QA,qc,rfl,hadd,hSg,hgl,hx,hX,hlx,hcs⟩:=aB.sub hN.open_.2.2 hpos
 have hxe:x=x':=by rw[hx0] at hx;injection hx
 subst hxe
 have hA1:Upd Nob w (w.alloc (.cells #[.int .i64 t.kind,.slice RA t.rs.length rc,.int .i64 t.am,.slice (some ad) t.subs.length sc,.int .i64 t.mn,.int .i64 t.mx,.bool t.lz,.int .i64 t.ix,.string t.nm] 47)):=(Upd.refl Nob w).alloc _
 have hA2:Upd Nob w ((w.alloc (.cells #[.int .i64 t.kind,.slice RA t.rs.length rc,.int .i64 t.am,.slice (some ad) t.subs.length sc,.int .i64 t.mn,.int .i64 t.mx,.bool t.lz,.int .i64 t.ix,.string t.nm] 47)).alloc (.cells #[.int .i64 x.kind,.slice PA x.rs.length pc,.int .i64 x.am,.slice QA x.subs.length qc,.int .i64 x.mn,.int .i64 x.mx,.bool x.lz,.int .i64 x.ix,.string x.nm] 47)):=hA1.alloc _
 have hz1:(w.alloc (.cells #[.int .i64 t.kind,.slice RA t.rs.length rc,.int .i64 t.am,.slice (some ad) t.subs.length sc,.int .i64 t.mn,.int .i64 t.mx,.bool t.lz,.int .i64 t.ix,.string t.nm] 47)).heap.size=w.heap.size+1:=World.size_alloc _ _
 have C3:=(Cells.new w 47 #[.int .i64 t.kind,.slice RA t.rs.length rc,.int .i64 t.am,.slice (some ad) t.subs.length sc,.int .i64 t.mn,.int .i64 t.mx,.bool t.lz,.int .i64 t.ix,.string t.nm]).upd ((Upd.refl Nob _).alloc (.cells #[.int .i64 x.kind,.slice PA x.rs.length pc,.int .i64 x.am,.slice QA x.subs.length qc,.int .i64 x.mn,.int .i64 x.mx,.bool x.lz,.int .i64 x.ix,.string x.nm] 47)) aj
 have C5:=Cells.new (w.alloc (.cells #[.int .i64 t.kind,.slice RA t.rs.length rc,.int .i64 t.am,.slice (some ad) t.subs.length sc,.int .i64 t.mn,.int .i64 t.mx,.bool t.lz,.int .i64 t.ix,.string t.nm] 47)) 47 #[.int .i64 x.kind,.slice PA x.rs.length pc,.int .i64 x.am,.slice QA x.subs.length qc,.int .i64 x.mn,.int .i64 x.mx,.bool x.lz,.int .i64 x.ix,.string x.nm]
 rw[hz1] at C5
 obtain⟨e0,e1,e2,e3,e4,e5,e6,e7,e8⟩:=aI (Cells.new w 47 #[.int .i64 t.kind,.slice RA t.rs.length rc,.int .i64 t.am,.slice (some ad) t.subs.length sc,.int .i64 t.mn,.int .i64 t.mx,.bool t.lz,.int .i64 t.ix,.string t.nm])
 obtain⟨p0,p1,p2,p3,p4,p5,p6,p7,p8⟩:=bH (fun j v hv=>(hA1.cell (p:=⟨g,o+j,none⟩) hgl aj).trans (hcs j v hv))
 have HA0:=ah (TNx.aM hT hA2)
 have HT:=ah hT
 have HNX:=ah (hX.bA hA2 (fun _ _=>aj))
 have hn3:¬TabF tb TA w.heap.size:=fun h=>by
  rcases h with h | h
  ·omega
  ·have:=(hT.gQ _ h).2;omega
 have hn5:¬TabF tb TA (w.heap.size+1):=fun h=>by
  rcases h with h | h
  ·omega
  ·have:=(hT.gQ _ h).2;omega
 have HN3:=ah hn3
 have HN5:=ah hn5
 have HF:=ah hF
 have HC3:=ah C3
 have HC5:=ah C5
 unfold au at HNX ⊢
 clear hT hN hX hcs hx hlx hA1 hA2 hn3 hn5 hF C3 C5 hx0
 go_enter Try.func63,Try.ntmps63
 go_upto_region 1 with fail
 generalize w.alloc (.cells #[.int .i64 t.kind,.slice RA t.rs.length rc,.int .i64 t.am,.slice (some ad) t.subs.length sc,.int .i64 t.mn,.int .i64 t.mx,.bool t.lz,.int .i64 t.ix,.string t.nm] 47)=wa at *
 go_upto_region 2 with fail
 generalize wa.alloc (.cells #[.int .i64 x.kind,.slice PA x.rs.length pc,.int .i64 x.am,.slice QA x.subs.length qc,.int .i64 x.mn,.int .i64 x.mx,.bool x.lz,.int .i64 x.ix,.string x.nm] 47)=wb at *
 clear e0 e1 e2 e3 e4 e5 e6 e7 e8 p0 p1 p2 p3 p4 p5 p6 p7 p8 hadd hz1
 generalize w.heap.size+1=xb5 at *
 generalize hxb:w.heap.size=xb3 at *
 have HXB:=ah hxb
 clear hxb
 obtain⟨e0,e1,e2,e3,e4,e5,e6,e7,e8⟩:=aI HC3.out
 have SPP:=ah (show ∀w':World,Cells w' xb5 47 #[.int .i64 x.kind,.slice PA x.rs.length pc,.int .i64 x.am,.slice QA x.subs.length qc,.int .i64 x.mn,.int .i64 x.mx,.bool x.lz,.int .i64 x.ix,.string x.nm]→Cells w' xb3 47 #[.int .i64 t.kind,.slice RA t.rs.length rc,.int .i64 t.am,.slice (some ad) t.subs.length sc,.int .i64 t.mn,.int .i64 t.mx,.bool t.lz,.int .i64 t.ix,.string t.nm]→(fun(w':World)=>w'.cell? ⟨xb5,0,none⟩=some (.int .i64 x.kind)∧w'.cell? ⟨xb5,1,none⟩=some (.slice PA x.rs.length pc)∧w'.cell? ⟨xb5,2,none⟩=some (.int .i64 x.am)∧w'.cell? ⟨xb5,3,none⟩=some (.slice QA x.subs.length qc)∧w'.cell? ⟨xb5,4,none⟩=some (.int .i64 x.mn)∧w'.cell? ⟨xb5,5,none⟩=some (.int .i64 x.mx)∧w'.cell? ⟨xb5,6,none⟩=some (.bool x.lz)∧w'.cell? ⟨xb5,7,none⟩=some (.int .i64 x.ix)∧w'.cell? ⟨xb5,8,none⟩=some (.string x.nm)∧w'.cell? ⟨xb3,0+6,none⟩=some (.bool t.lz)) w' from fun w' h5 h3=>⟨h5.ak rfl,h5.ak rfl,h5.ak rfl,h5.ak rfl,h5.ak rfl,h5.ak rfl,h5.ak rfl,h5.ak rfl,h5.ak rfl,h3.ak rfl⟩)
 have hd1:decide (t.mx < 0)=false:=decide_eq_false hmx
 go_wp2_with fail
 have HBB:=ah HA0.out.tab.eO
 have HDL:=ah HA0.out.tab.d
 clear e0 e1 e2 e3 e4 e5 e6 e7 e8
 go_loopg [6,8] N (fun gk v6 v8 wr=>∃(m:Nat) (li:List PN) (ss:List Nat) (LA:Option Addr) (lc:Nat) (Ti:Option Addr) (ci:Nat),m+gk=N∧v8=.int .i64 (m:Int)∧v6=.slice LA m lc∧ss.length=m∧((aF f gk li).1=q.1∧ss++(aF f gk li).2=q.2)∧TNx base tb S (fun b=>D b∨LA.map (·.block)=some b) wb TA li wr Ti ci∧wr.ownsRow base 3 1 (.slice LA m lc) m (bn (ss.map fun(s:Nat)=>(s:Int)))∧(∀s∈ss,s < li.length)∧(∀b,LA.map (·.block)=some b→wb.heap.size≤b))
 case atStart=>exact⟨0,l,[],none,0,TA,tc,by omega,rfl,rfl,rfl,⟨by rw[HQ.out],by rw[HQ.out];rfl⟩,(TNx.aM HA0.out.tab (Upd.refl _ _)).weakD (fun b hb=>hb.resolve_right (by simp)),World.ownsRow_nil _ _ _ _,by simp,by simp⟩
 case round =>
  obtain⟨m,li,ss,LA,lc,Ti,ci,hk2,rfl,rfl,hsl,hqq,hX,hO,hss,hfr⟩:=hrel
  have HK:=ah hk2
  have HSL:=ah hsl
  have HQQ:=ah hqq
  have HX:=ah hX
  have HO:=ah hO
  have HSS:=ah hss
  have HFR:=ah hfr
  have htw:=HA0.out.tab.size
  have c3:=HC3.out.upd hX.upd HN3.out
  have c5:=HC5.out.upd hX.upd HN5.out
  have HC3r:=ah c3
  have HC5r:=ah c5
  have HNr:=ah (HNX.out.bA hX.upd HA0.out.tab.notF)
  obtain⟨e0,e1,e2,e3,e4,e5,e6,e7,e8⟩:=aI c3
  obtain⟨p0,p1,p2,p3,p4,p5,p6,p7,p8⟩:=aI c5
  clear hk2 hsl hqq hX hO hss hfr c3 c5
  by_cases hlt:m < N
  ·have q1:(m:Int) < t.mn:=by have:=HN0.out;omega
   obtain⟨k,hk⟩:∃k,gk=k+1:=⟨gk - 1,by have:=HK.out;omega⟩
   subst hk
   have hQ2:=HQQ.out
   rw[show aF f (k+1) li=((aF f k (f li).1).1,(f li).2::(aF f k (f li).1).2) from rfl] at hQ2
   have HQQ:=ah hQ2
   have hfi:=hg.len li
   have htl:=times_len hg k (f li).1
   rw[hQ2.1] at htl
   have HLI:=ah hfi
   have hm:=HK.out
   have HF2:=ah (HF.out _ wr li Ti ci _ HX.out.tab HNr.out (by omega))
   clear hQ2 hfi htl
   go_wp2_with (first | (go_at_call 44;refine HF2.out.mono ?_;rintro e w3 ⟨rfl,T3,c3,hX3⟩;have HX3:=ah hX3;have HO3:=ah (hX3.own HX.out.tab HO.out);have hb3:=hX3.tab.eO;clear hX3) | (at_builtin;refine wpList_append_own_at _ rfl _ _ 28 rfl base 3 i0 (.int .i64 0) 1 8 Try.underlying28 hi0 hz0 hz1 hz2 rfl (by decide) (.slice LA m lc) m (bn (ss.map fun(s:Nat)=>(s:Int))) rfl (HO3.out.alloc _) ⟨w3.heap.size,0,none⟩ 1 1 [(.int .i64 ((f li).2:Int))] rfl rfl ?d1 ?d2 ?d3 ?d4 ?d5 ?_))
   case d1=>exact World.news_of_block (cs:=#[(.int .i64 ((f li).2:Int))]) (t:=3) (fr:=(0,0)) (heap_alloc_new _ _)
   case d2=>first | rfl | exact⟨rfl⟩ | trivial | (intro u hu;simp at hu;subst hu;rfl) | simp
   case d3=>unfold maxLen;omega
   case d4=>omega
   case d5=>simp;omega
   intro v4 w4 o4 g4 hb4 hat
   obtain⟨A4,c4,rfl⟩:=dG o4
   rw[jH] at o4
   have hU4:Upd (fun b=>(Value.slice LA m lc).ownBlock=some b) w3 w4:=((Upd.refl (fun b=>(Value.slice LA m lc).ownBlock=some b) w3).alloc _).grown g4 (fun b hb _=>hb)
   have hnew:∀b,A4.map (·.block)=some b→LA.map (·.block)=some b∨b=w3.heap.size+1:=fun b hb=>by
    rcases hat with hx | hx
    ·rw[aN.2 hb] at hx
     exact .inl (aN.1 hx.symm)
    ·rw[aN.2 hb] at hx
     simp at hx
     exact .inr hx
   have hs3:=HX3.out.upd.size
   have hsr:=HX.out.upd.size
   have hs4:=hU4.size
   have hT4:=HX3.out.tab.grow (D':=fun b=>D b∨A4.map (·.block)=some b) HO3.out (fun b hb=>.inr (aN.1 hb)) hU4 (fun b hb=>by
    rcases hb with hb | hb
    ·exact⟨.inl (.inl hb),by have:=HX3.out.tab.d b (.inl hb);omega⟩
    ·refine⟨?_,(o4.lt b (aN.2 hb)).2⟩
     rcases hnew b hb with h | h
     ·exact .inl (.inr h)
     ·exact .inr (by omega))
   have HX4:=ah ((HX.out.trans HX3.out htw).growO hT4 (fun b hb=>HFR.out b (aN.1 hb)) hU4)
   have HO4:=ah o4
   have HNEW:=ah hnew
   clear o4 g4 hb4 hat hU4 hT4 hnew HX3 HO3
   clear e0 e1 e2 e3 e4 e5 e6 e7 e8 p0 p1 p2 p3 p4 p5 p6 p7 p8
   go_wp2_with fail
   have hmk:=HK.out
   go_roundg k
   case measure=>omega
   case rel=>exact⟨m+1,(f li).1,ss++[(f li).2],A4,c4,T3,c3,by omega,by go_num,rfl,by simp[HSL.out],⟨HQQ.out.1,by rw[←HQQ.out.2];simp⟩,HX4.out,HO4.out,fun s hs=>by
     rcases List.mem_append.1 hs with hs | hs
     ·have:=HSS.out s hs
      have:=HLI.out.1
      omega
     ·obtain rfl:s=(f li).2:=by simpa using hs
      exact HLI.out.2,fun b hb=>by
     rcases HNEW.out b hb with h | h
     ·exact HFR.out b h
     ·omega⟩
  ·have q1:¬(m:Int) < t.mn:=by have:=HN0.out;omega
   obtain rfl:gk=0:=by have:=HK.out;omega
   obtain⟨hq1,hq2⟩:=HQQ.out
   have hqa:li=q.1:=hq1
   have hqb:ss=q.2:=by simpa [aF] using hq2
   clear hq1 hq2 HQQ
   subst hqa
   subst hqb
   have hmN:m=N:=by have:=HK.out;omega
   subst hmN
   have HW:=ah (HX.out.weakD (D':=D) (fun b hb=>.inl hb))
   have HDD:=ah (show ∀b,(Value.slice LA m lc).ownBlock=some b→¬D b from fun b hb hd=>by
    have:=HFR.out b (aN.1 hb)
    have:=HDL.out b hd
    omega)
   have HR:=ah (row_any (ss:=q.2) (A:=LA) (c:=lc) HW.out.tab (by rw[HSL.out];exact HO.out) (by rw[HSL.out];exact HDD.out) HSS.out (by omega) (by rw[HSL.out];omega))
   have hd3:=HMM.out
   rw[HSL.out] at HR
   clear p0 p1 p2 p3 p4 p5 p6 p7 p8
   go_wp2_with (go_at_call 87;refine HR.out.mono ?_;rintro e w5 ⟨rfl,T5,c5,hX5⟩)
   go_ret
   exact⟨rfl,T5,c5,(HA0.out.trans HW.out (by rw[HXB.out];exact htb)).trans hX5 (by rw[HXB.out];exact htb)⟩
theorem rep_opt {base tb:Nat} {S:Nat→Prop} {t x:Tree} {f:Uf} {u:UT} (hF:UnfC base tb S x f) (hg:fJ f u) (hx0:t.subs[0]?=some x) (hmx:¬t.mx < 0) (hmn:0≤t.mn) (hmn2:t.mx≤1000) (hmm:t.mn < t.mx):∀(D:Nat→Prop) (w:World) (l:List PN) (TA:Option Addr) (tc:Nat) (cs:Array Value),dZ w base tb S D l TA tc→aB w S cs t→(iJ f t.mn t.mx t.lz l).1.length≤90000→Calls Try.prog 63 #[.pointer (some ⟨tb,0,none⟩),.agg cs] w (TAns base tb S D w TA (iJ f t.mn t.mx t.lz l)):=by
 intro D w l TA tc cs hT hN hlen
 obtain⟨RA,rc,SA,sc,rfl,-⟩:=hN.top
 have htb:=hT.size
 have hfl:=hg.len l
 obtain⟨N,hN0⟩:∃N:Nat,t.mn=(N:Int):=⟨t.mn.toNat,by omega⟩
 obtain⟨K,hK0⟩:∃K:Nat,t.mx - t.mn=(K:Int):=⟨(t.mx - t.mn).toNat,by omega⟩
 obtain⟨q,hq⟩:∃q,aF f N l=q:=⟨_,rfl⟩
 obtain⟨lr,n2,hr⟩:∃lr n2,fZ f t.lz K q.1=(lr,n2):=⟨_,_,rfl⟩
 rw[repT_opt hmx hmm hN0 hK0,hq,hr] at hlen ⊢
 have hrl:=kW (q.2++[n2]) lr
 have hgo:=(jl t.lz hg K (by omega)).len q.1
 rw[hr] at hgo
 have hll:lr.length≤90000:=Nat.le_trans hrl.1 hlen
 have hgo1:q.1.length≤lr.length:=hgo.1
 have hql:q.1.length≤90000:=by omega
 have HLE2:=ah hll
 have HLE:=ah (show q.1.length≤lr.length∧n2 < lr.length from hgo)
 obtain⟨i0,hi0,hz0,hz1,hz2⟩:=info_parts iw
 have HN0:=ah hN0
 have HQ:=ah hq
 have HR0:=ah hr
 have hN1:N≤1000:=by omega
 have hkw:IntKind.i64.wrap (t.mx - t.mn)=(K:Int):=by rw[IntKind.wrap_i64];omega
 have hk1:0 < K∧K≤1000:=by omega
 have HKW:=ah hkw
 have HK1:=ah hk1
 have HMM:=ah hmm
 clear hrl hlen hN0 hq hr hmm hkw hk1 hgo hgo1 hll hK0
 have hpos:0 < t.subs.length:=(List.getElem?_eq_some_iff.1 hx0).1
 have hposI:(0:Int) < (t.subs.length:Int):=by omega
 obtain⟨ad,g,o,x',PA,pc,QA,qc,rfl,hadd,hSg,hgl,hx,hX,hlx,hcs⟩:=aB.sub hN.open_.2.2 hpos
 have hxe:x=x':=by rw[hx0] at hx;injection hx
 subst hxe
 have hA1:Upd Nob w (w.alloc (.cells #[.int .i64 t.kind,.slice RA t.rs.length rc,.int .i64 t.am,.slice (some ad) t.subs.length sc,.int .i64 t.mn,.int .i64 t.mx,.bool t.lz,.int .i64 t.ix,.string t.nm] 47)):=(Upd.refl Nob w).alloc _
 have hA2:Upd Nob w ((w.alloc (.cells #[.int .i64 t.kind,.slice RA t.rs.length rc,.int .i64 t.am,.slice (some ad) t.subs.length sc,.int .i64 t.mn,.int .i64 t.mx,.bool t.lz,.int .i64 t.ix,.string t.nm] 47)).alloc (.cells #[.int .i64 x.kind,.slice PA x.rs.length pc,.int .i64 x.am,.slice QA x.subs.length qc,.int .i64 x.mn,.int .i64 x.mx,.bool x.lz,.int .i64 x.ix,.string x.nm] 47)):=hA1.alloc _
 have hz1:(w.alloc (.cells #[.int .i64 t.kind,.slice RA t.rs.length rc,.int .i64 t.am,.slice (some ad) t.subs.length sc,.int .i64 t.mn,.int .i64 t.mx,.bool t.lz,.int .i64 t.ix,.string t.nm] 47)).heap.size=w.heap.size+1:=World.size_alloc _ _
 have C3:=(Cells.new w 47 #[.int .i64 t.kind,.slice RA t.rs.length rc,.int .i64 t.am,.slice (some ad) t.subs.length sc,.int .i64 t.mn,.int .i64 t.mx,.bool t.lz,.int .i64 t.ix,.string t.nm]).upd ((Upd.refl Nob _).alloc (.cells #[.int .i64 x.kind,.slice PA x.rs.length pc,.int .i64 x.am,.slice QA x.subs.length qc,.int .i64 x.mn,.int .i64 x.mx,.bool x.lz,.int .i64 x.ix,.string x.nm] 47)) aj
 have C5:=Cells.new (w.alloc (.cells #[.int .i64 t.kind,.slice RA t.rs.length rc,.int .i64 t.am,.slice (some ad) t.subs.length sc,.int .i64 t.mn,.int .i64 t.mx,.bool t.lz,.int .i64 t.ix,.string t.nm] 47)) 47 #[.int .i64 x.kind,.slice PA x.rs.length pc,.int .i64 x.am,.slice QA x.subs.length qc,.int .i64 x.mn,.int .i64 x.mx,.bool x.lz,.int .i64 x.ix,.string x.nm]
 rw[hz1] at C5
 obtain⟨e0,e1,e2,e3,e4,e5,e6,e7,e8⟩:=aI (Cells.new w 47 #[.int .i64 t.kind,.slice RA t.rs.length rc,.int .i64 t.am,.slice (some ad) t.subs.length sc,.int .i64 t.mn,.int .i64 t.mx,.bool t.lz,.int .i64 t.ix,.string t.nm])
 obtain⟨p0,p1,p2,p3,p4,p5,p6,p7,p8⟩:=bH (fun j v hv=>(hA1.cell (p:=⟨g,o+j,none⟩) hgl aj).trans (hcs j v hv))
 have HA0:=ah (TNx.aM hT hA2)
 have HT:=ah hT
 have HNX:=ah (hX.bA hA2 (fun _ _=>aj))
 have hn3:¬TabF tb TA w.heap.size:=fun h=>by
  rcases h with h | h
  ·omega
  ·have:=(hT.gQ _ h).2;omega
 have hn5:¬TabF tb TA (w.heap.size+1):=fun h=>by
  rcases h with h | h
  ·omega
  ·have:=(hT.gQ _ h).2;omega
 have HN3:=ah hn3
 have HN5:=ah hn5
 have HF:=ah hF
 have HC3:=ah C3
 have HC5:=ah C5
 unfold au at HNX ⊢
 clear hT hN hX hcs hx hlx hA1 hA2 hn3 hn5 hF C3 C5 hx0
 go_enter Try.func63,Try.ntmps63
 go_upto_region 1 with fail
 generalize w.alloc (.cells #[.int .i64 t.kind,.slice RA t.rs.length rc,.int .i64 t.am,.slice (some ad) t.subs.length sc,.int .i64 t.mn,.int .i64 t.mx,.bool t.lz,.int .i64 t.ix,.string t.nm] 47)=wa at *
 go_upto_region 2 with fail
 generalize wa.alloc (.cells #[.int .i64 x.kind,.slice PA x.rs.length pc,.int .i64 x.am,.slice QA x.subs.length qc,.int .i64 x.mn,.int .i64 x.mx,.bool x.lz,.int .i64 x.ix,.string x.nm] 47)=wb at *
 clear e0 e1 e2 e3 e4 e5 e6 e7 e8 p0 p1 p2 p3 p4 p5 p6 p7 p8 hadd hz1
 generalize w.heap.size+1=xb5 at *
 generalize hxb:w.heap.size=xb3 at *
 have HXB:=ah hxb
 clear hxb
 obtain⟨e0,e1,e2,e3,e4,e5,e6,e7,e8⟩:=aI HC3.out
 have SPP:=ah (show ∀w':World,Cells w' xb5 47 #[.int .i64 x.kind,.slice PA x.rs.length pc,.int .i64 x.am,.slice QA x.subs.length qc,.int .i64 x.mn,.int .i64 x.mx,.bool x.lz,.int .i64 x.ix,.string x.nm]→Cells w' xb3 47 #[.int .i64 t.kind,.slice RA t.rs.length rc,.int .i64 t.am,.slice (some ad) t.subs.length sc,.int .i64 t.mn,.int .i64 t.mx,.bool t.lz,.int .i64 t.ix,.string t.nm]→(fun(w':World)=>w'.cell? ⟨xb5,0,none⟩=some (.int .i64 x.kind)∧w'.cell? ⟨xb5,1,none⟩=some (.slice PA x.rs.length pc)∧w'.cell? ⟨xb5,2,none⟩=some (.int .i64 x.am)∧w'.cell? ⟨xb5,3,none⟩=some (.slice QA x.subs.length qc)∧w'.cell? ⟨xb5,4,none⟩=some (.int .i64 x.mn)∧w'.cell? ⟨xb5,5,none⟩=some (.int .i64 x.mx)∧w'.cell? ⟨xb5,6,none⟩=some (.bool x.lz)∧w'.cell? ⟨xb5,7,none⟩=some (.int .i64 x.ix)∧w'.cell? ⟨xb5,8,none⟩=some (.string x.nm)∧w'.cell? ⟨xb3,0+6,none⟩=some (.bool t.lz)) w' from fun w' h5 h3=>⟨h5.ak rfl,h5.ak rfl,h5.ak rfl,h5.ak rfl,h5.ak rfl,h5.ak rfl,h5.ak rfl,h5.ak rfl,h5.ak rfl,h3.ak rfl⟩)
 have hd1:decide (t.mx < 0)=false:=decide_eq_false hmx
 go_wp2_with fail
 have HBB:=ah HA0.out.tab.eO
 have HDL:=ah HA0.out.tab.d
 clear e0 e1 e2 e3 e4 e5 e6 e7 e8
 go_loopg [6,8] N (fun gk v6 v8 wr=>∃(m:Nat) (li:List PN) (ss:List Nat) (LA:Option Addr) (lc:Nat) (Ti:Option Addr) (ci:Nat),m+gk=N∧v8=.int .i64 (m:Int)∧v6=.slice LA m lc∧ss.length=m∧((aF f gk li).1=q.1∧ss++(aF f gk li).2=q.2)∧TNx base tb S (fun b=>D b∨LA.map (·.block)=some b) wb TA li wr Ti ci∧wr.ownsRow base 3 1 (.slice LA m lc) m (bn (ss.map fun(s:Nat)=>(s:Int)))∧(∀s∈ss,s < li.length)∧(∀b,LA.map (·.block)=some b→wb.heap.size≤b))
 case atStart=>exact⟨0,l,[],none,0,TA,tc,by omega,rfl,rfl,rfl,⟨by rw[HQ.out],by rw[HQ.out];rfl⟩,(TNx.aM HA0.out.tab (Upd.refl _ _)).weakD (fun b hb=>hb.resolve_right (by simp)),World.ownsRow_nil _ _ _ _,by simp,by simp⟩
 case round =>
  obtain⟨m,li,ss,LA,lc,Ti,ci,hk2,rfl,rfl,hsl,hqq,hX,hO,hss,hfr⟩:=hrel
  have HK:=ah hk2
  have HSL:=ah hsl
  have HQQ:=ah hqq
  have HX:=ah hX
  have HO:=ah hO
  have HSS:=ah hss
  have HFR:=ah hfr
  have htw:=HA0.out.tab.size
  have c3:=HC3.out.upd hX.upd HN3.out
  have c5:=HC5.out.upd hX.upd HN5.out
  have HC3r:=ah c3
  have HC5r:=ah c5
  have HNr:=ah (HNX.out.bA hX.upd HA0.out.tab.notF)
  obtain⟨e0,e1,e2,e3,e4,e5,e6,e7,e8⟩:=aI c3
  obtain⟨p0,p1,p2,p3,p4,p5,p6,p7,p8⟩:=aI c5
  clear hk2 hsl hqq hX hO hss hfr c3 c5
  by_cases hlt:m < N
  ·have q1:(m:Int) < t.mn:=by have:=HN0.out;omega
   obtain⟨k,hk⟩:∃k,gk=k+1:=⟨gk - 1,by have:=HK.out;omega⟩
   subst hk
   have hQ2:=HQQ.out
   rw[show aF f (k+1) li=((aF f k (f li).1).1,(f li).2::(aF f k (f li).1).2) from rfl] at hQ2
   have HQQ:=ah hQ2
   have hfi:=hg.len li
   have htl:=times_len hg k (f li).1
   rw[hQ2.1] at htl
   have HLI:=ah hfi
   have hm:=HK.out
   have HF2:=ah (HF.out _ wr li Ti ci _ HX.out.tab HNr.out (by omega))
   clear hQ2 hfi htl
   go_wp2_with (first | (go_at_call 44;refine HF2.out.mono ?_;rintro e w3 ⟨rfl,T3,c3,hX3⟩;have HX3:=ah hX3;have HO3:=ah (hX3.own HX.out.tab HO.out);have hb3:=hX3.tab.eO;clear hX3) | (at_builtin;refine wpList_append_own_at _ rfl _ _ 28 rfl base 3 i0 (.int .i64 0) 1 8 Try.underlying28 hi0 hz0 hz1 hz2 rfl (by decide) (.slice LA m lc) m (bn (ss.map fun(s:Nat)=>(s:Int))) rfl (HO3.out.alloc _) ⟨w3.heap.size,0,none⟩ 1 1 [(.int .i64 ((f li).2:Int))] rfl rfl ?d1 ?d2 ?d3 ?d4 ?d5 ?_))
   case d1=>exact World.news_of_block (cs:=#[(.int .i64 ((f li).2:Int))]) (t:=3) (fr:=(0,0)) (heap_alloc_new _ _)
   case d2=>first | rfl | exact⟨rfl⟩ | trivial | (intro u hu;simp at hu;subst hu;rfl) | simp
   case d3=>unfold maxLen;omega
   case d4=>omega
   case d5=>simp;omega
   intro v4 w4 o4 g4 hb4 hat
   obtain⟨A4,c4,rfl⟩:=dG o4
   rw[jH] at o4
   have hU4:Upd (fun b=>(Value.slice LA m lc).ownBlock=some b) w3 w4:=((Upd.refl (fun b=>(Value.slice LA m lc).ownBlock=some b) w3).alloc _).grown g4 (fun b hb _=>hb)
   have hnew:∀b,A4.map (·.block)=some b→LA.map (·.block)=some b∨b=w3.heap.size+1:=fun b hb=>by
    rcases hat with hx | hx
    ·rw[aN.2 hb] at hx
     exact .inl (aN.1 hx.symm)
    ·rw[aN.2 hb] at hx
     simp at hx
     exact .inr hx
   have hs3:=HX3.out.upd.size
   have hsr:=HX.out.upd.size
   have hs4:=hU4.size
   have hT4:=HX3.out.tab.grow (D':=fun b=>D b∨A4.map (·.block)=some b) HO3.out (fun b hb=>.inr (aN.1 hb)) hU4 (fun b hb=>by
    rcases hb with hb | hb
    ·exact⟨.inl (.inl hb),by have:=HX3.out.tab.d b (.inl hb);omega⟩
    ·refine⟨?_,(o4.lt b (aN.2 hb)).2⟩
     rcases hnew b hb with h | h
     ·exact .inl (.inr h)
     ·exact .inr (by omega))
   have HX4:=ah ((HX.out.trans HX3.out htw).growO hT4 (fun b hb=>HFR.out b (aN.1 hb)) hU4)
   have HO4:=ah o4
   have HNEW:=ah hnew
   clear o4 g4 hb4 hat hU4 hT4 hnew HX3 HO3
   clear e0 e1 e2 e3 e4 e5 e6 e7 e8 p0 p1 p2 p3 p4 p5 p6 p7 p8
   go_wp2_with fail
   have hmk:=HK.out
   go_roundg k
   case measure=>omega
   case rel=>exact⟨m+1,(f li).1,ss++[(f li).2],A4,c4,T3,c3,by omega,by go_num,rfl,by simp[HSL.out],⟨HQQ.out.1,by rw[←HQQ.out.2];simp⟩,HX4.out,HO4.out,fun s hs=>by
     rcases List.mem_append.1 hs with hs | hs
     ·have:=HSS.out s hs
      have:=HLI.out.1
      omega
     ·obtain rfl:s=(f li).2:=by simpa using hs
      exact HLI.out.2,fun b hb=>by
     rcases HNEW.out b hb with h | h
     ·exact HFR.out b h
     ·omega⟩
  ·have q1:¬(m:Int) < t.mn:=by have:=HN0.out;omega
   obtain rfl:gk=0:=by have:=HK.out;omega
   obtain⟨hq1,hq2⟩:=HQQ.out
   have hqa:li=q.1:=hq1
   have hqb:ss=q.2:=by simpa [aF] using hq2
   clear hq1 hq2 HQQ
   subst hqa
   subst hqb
   have hmN:m=N:=by have:=HK.out;omega
   subst hmN
   have HW:=ah (HX.out.weakD (D':=D) (fun b hb=>.inl hb))
   have HDD:=ah (show ∀b,(Value.slice LA m lc).ownBlock=some b→¬D b from fun b hb hd=>by
    have:=HFR.out b (aN.1 hb)
    have:=HDL.out b hd
    omega)
   have hd3:=HMM.out
   have hkw:=HKW.out
   have HOP:=ah (opt_any HF.out hg t.lz K HK1.out.1 HK1.out.2 _ wr q.1 Ti ci _ HX.out.tab HNr.out (by rw[HR0.out];exact HLE2.out))
   rw[HR0.out] at HOP
   have hm3:m≤1000:=hN1
   go_upto_region 16 with(first | (go_at_call 86;refine HOP.out.mono ?_;rintro e w3 ⟨rfl,T3,c3,hX3⟩;have HX3:=ah hX3;have HO3:=ah (hX3.own HX.out.tab HO.out);have hb3:=hX3.tab.eO;clear hX3) | (at_builtin;refine wpList_append_own_at _ rfl _ _ 28 rfl base 3 i0 (.int .i64 0) 1 8 Try.underlying28 hi0 hz0 hz1 hz2 rfl (by decide) (.slice LA m lc) m (bn (q.2.map fun(s:Nat)=>(s:Int))) rfl (HO3.out.alloc _) ⟨w3.heap.size,0,none⟩ 1 1 [(.int .i64 (n2:Int))] rfl rfl ?d1 ?d2 ?d3 ?d4 ?d5 ?_))
   case d1=>exact World.news_of_block (cs:=#[(.int .i64 (n2:Int))]) (t:=3) (fr:=(0,0)) (heap_alloc_new _ _)
   case d2=>first | rfl | exact⟨rfl⟩ | trivial | (intro u hu;simp at hu;subst hu;rfl) | simp
   case d3=>unfold maxLen;omega
   case d4=>omega
   case d5=>simp;omega
   intro v4 w4 o4 g4 hb4 hat
   obtain⟨A4,c4,rfl⟩:=dG o4
   rw[jH] at o4
   have hU4:Upd (fun b=>(Value.slice LA m lc).ownBlock=some b) w3 w4:=((Upd.refl (fun b=>(Value.slice LA m lc).ownBlock=some b) w3).alloc _).grown g4 (fun b hb _=>hb)
   have hnew:∀b,A4.map (·.block)=some b→LA.map (·.block)=some b∨b=w3.heap.size+1:=fun b hb=>by
    rcases hat with hx | hx
    ·rw[aN.2 hb] at hx
     exact .inl (aN.1 hx.symm)
    ·rw[aN.2 hb] at hx
     simp at hx
     exact .inr hx
   have hs3:=HX3.out.upd.size
   have hsr:=HX.out.upd.size
   have hs4:=hU4.size
   have hT4:=HX3.out.tab.grow (D':=D) HO3.out (fun b hb=>.inr (aN.1 hb)) hU4 (fun b hb=>⟨.inl (.inl hb),by have:=HX3.out.tab.d b (.inl hb);omega⟩)
   have HX4:=ah ((HX.out.trans HX3.out htw).growO hT4 (fun b hb=>HFR.out b (aN.1 hb)) hU4)
   have hD4:∀b,(Value.slice A4 (m+1) c4).ownBlock=some b→¬D b:=fun b hb hd=>by
    have h1:=HDL.out b hd
    rcases hnew b (aN.1 hb) with h | h
    ·have:=HFR.out b h
     omega
    ·omega
   have hsl4:(q.2++[n2]).length=m+1:=by simp[HSL.out]
   have HR:=ah (row_any (ss:=q.2++[n2]) (A:=A4) (c:=c4) HX4.out.tab (by rw[hsl4];exact o4) (by rw[hsl4];exact hD4) (fun s hs=>by
     rcases List.mem_append.1 hs with hs | hs
     ·have:=HSS.out s hs
      have:=HLE.out.1
      omega
     ·obtain rfl:s=n2:=by simpa using hs
      exact HLE.out.2) HLE2.out (by rw[hsl4];omega))
   rw[hsl4] at HR
   clear o4 hb4 hat hU4 hT4 hnew HX3 HO3 hD4 hsl4
   clear p0 p1 p2 p3 p4 p5 p6 p7 p8 g4
   go_wp2_with (go_at_call 87;refine HR.out.mono ?_;rintro e w5 ⟨rfl,T5,c5,hX5⟩)
   go_ret
   exact⟨rfl,T5,c5,(HA0.out.trans HX4.out (by rw[HXB.out];exact htb)).trans hX5 (by rw[HXB.out];exact htb)⟩
theorem rep_plus {base tb:Nat} {S:Nat→Prop} {t x:Tree} {f:Uf} {u:UT} (hF:UnfC base tb S x f) (hg:fJ f u) (hx0:t.subs[0]?=some x) (hmx:t.mx < 0) (hmn:1≤t.mn) (hmn2:t.mn≤1000):∀(D:Nat→Prop) (w:World) (l:List PN) (TA:Option Addr) (tc:Nat) (cs:Array Value),dZ w base tb S D l TA tc→aB w S cs t→(iJ f t.mn t.mx t.lz l).1.length≤90000→Calls Try.prog 63 #[.pointer (some ⟨tb,0,none⟩),.agg cs] w (TAns base tb S D w TA (iJ f t.mn t.mx t.lz l)):=by
 intro D w l TA tc cs hT hN hlen
 obtain⟨RA,rc,SA,sc,rfl,-⟩:=hN.top
 have htb:=hT.size
 have hfl:=hg.len l
 obtain⟨N,hN0⟩:∃N:Nat,t.mn=(N:Int)+1:=⟨(t.mn - 1).toNat,by omega⟩
 obtain⟨q,hq⟩:∃q,aF f N l=q:=⟨_,rfl⟩
 obtain⟨lr,n2,hr⟩:∃lr n2,dA (aX 102 [(f q.1).2] t.lz) (f q.1).1=(lr,n2):=⟨_,_,rfl⟩
 rw[repT_plus hmx hN0,hq,hr] at hlen ⊢
 have hrl:=kW (q.2++[n2]) lr
 have hpl:=dJ (aX 102 [(f q.1).2] t.lz) (f q.1).1
 rw[hr] at hpl
 have hp1:lr.length=(f q.1).1.length+1:=hpl.1
 have hp2:n2=(f q.1).1.length:=hpl.2
 have hll:lr.length≤90000:=Nat.le_trans hrl.1 hlen
 have hfq:=hg.len q.1
 have hql:q.1.length≤90000:=by omega
 have hfl2:(f q.1).1.length≤89999:=by omega
 have hsb:∀s∈(aX 102 [(f q.1).2] t.lz).subs,s < (f q.1).1.length:=by simp[aX];exact hfq.2
 have HLE2:=ah hll
 have HLE:=ah (show q.1.length≤lr.length∧n2 < lr.length by omega)
 obtain⟨i0,hi0,hz0,hz1,hz2⟩:=info_parts iw
 have HN0:=ah hN0
 have HQ:=ah hq
 have HR0:=ah hr
 have hN1:N≤1000:=by omega
 have hkw:IntKind.i64.wrap (t.mn - 1)=(N:Int):=by rw[IntKind.wrap_i64];omega
 have hd2:(t.mn==0)=false:=by simp;omega
 have hd22:¬t.mn=0:=by omega
 clear hrl hlen hN0 hq hr hpl hp1 hp2 hfq hll
 have hpos:0 < t.subs.length:=(List.getElem?_eq_some_iff.1 hx0).1
 have hposI:(0:Int) < (t.subs.length:Int):=by omega
 obtain⟨ad,g,o,x',PA,pc,QA,qc,rfl,hadd,hSg,hgl,hx,hX,hlx,hcs⟩:=aB.sub hN.open_.2.2 hpos
 have hxe:x=x':=by rw[hx0] at hx;injection hx
 subst hxe
 have hA1:Upd Nob w (w.alloc (.cells #[.int .i64 t.kind,.slice RA t.rs.length rc,.int .i64 t.am,.slice (some ad) t.subs.length sc,.int .i64 t.mn,.int .i64 t.mx,.bool t.lz,.int .i64 t.ix,.string t.nm] 47)):=(Upd.refl Nob w).alloc _
 have hA2:Upd Nob w ((w.alloc (.cells #[.int .i64 t.kind,.slice RA t.rs.length rc,.int .i64 t.am,.slice (some ad) t.subs.length sc,.int .i64 t.mn,.int .i64 t.mx,.bool t.lz,.int .i64 t.ix,.string t.nm] 47)).alloc (.cells #[.int .i64 x.kind,.slice PA x.rs.length pc,.int .i64 x.am,.slice QA x.subs.length qc,.int .i64 x.mn,.int .i64 x.mx,.bool x.lz,.int .i64 x.ix,.string x.nm] 47)):=hA1.alloc _
 have hz1:(w.alloc (.cells #[.int .i64 t.kind,.slice RA t.rs.length rc,.int .i64 t.am,.slice (some ad) t.subs.length sc,.int .i64 t.mn,.int .i64 t.mx,.bool t.lz,.int .i64 t.ix,.string t.nm] 47)).heap.size=w.heap.size+1:=World.size_alloc _ _
 have C3:=(Cells.new w 47 #[.int .i64 t.kind,.slice RA t.rs.length rc,.int .i64 t.am,.slice (some ad) t.subs.length sc,.int .i64 t.mn,.int .i64 t.mx,.bool t.lz,.int .i64 t.ix,.string t.nm]).upd ((Upd.refl Nob _).alloc (.cells #[.int .i64 x.kind,.slice PA x.rs.length pc,.int .i64 x.am,.slice QA x.subs.length qc,.int .i64 x.mn,.int .i64 x.mx,.bool x.lz,.int .i64 x.ix,.string x.nm] 47)) aj
 have C5:=Cells.new (w.alloc (.cells #[.int .i64 t.kind,.slice RA t.rs.length rc,.int .i64 t.am,.slice (some ad) t.subs.length sc,.int .i64 t.mn,.int .i64 t.mx,.bool t.lz,.int .i64 t.ix,.string t.nm] 47)) 47 #[.int .i64 x.kind,.slice PA x.rs.length pc,.int .i64 x.am,.slice QA x.subs.length qc,.int .i64 x.mn,.int .i64 x.mx,.bool x.lz,.int .i64 x.ix,.string x.nm]
 rw[hz1] at C5
 obtain⟨e0,e1,e2,e3,e4,e5,e6,e7,e8⟩:=aI (Cells.new w 47 #[.int .i64 t.kind,.slice RA t.rs.length rc,.int .i64 t.am,.slice (some ad) t.subs.length sc,.int .i64 t.mn,.int .i64 t.mx,.bool t.lz,.int .i64 t.ix,.string t.nm])
 obtain⟨p0,p1,p2,p3,p4,p5,p6,p7,p8⟩:=bH (fun j v hv=>(hA1.cell (p:=⟨g,o+j,none⟩) hgl aj).trans (hcs j v hv))
 have HA0:=ah (TNx.aM hT hA2)
 have HT:=ah hT
 have HNX:=ah (hX.bA hA2 (fun _ _=>aj))
 have hn3:¬TabF tb TA w.heap.size:=fun h=>by
  rcases h with h | h
  ·omega
  ·have:=(hT.gQ _ h).2;omega
 have hn5:¬TabF tb TA (w.heap.size+1):=fun h=>by
  rcases h with h | h
  ·omega
  ·have:=(hT.gQ _ h).2;omega
 have HN3:=ah hn3
 have HN5:=ah hn5
 have HF:=ah hF
 have HC3:=ah C3
 have HC5:=ah C5
 unfold au at HNX ⊢
 clear hT hN hX hcs hx hlx hA1 hA2 hn3 hn5 hF C3 C5 hx0
 go_enter Try.func63,Try.ntmps63
 go_upto_region 1 with fail
 generalize w.alloc (.cells #[.int .i64 t.kind,.slice RA t.rs.length rc,.int .i64 t.am,.slice (some ad) t.subs.length sc,.int .i64 t.mn,.int .i64 t.mx,.bool t.lz,.int .i64 t.ix,.string t.nm] 47)=wa at *
 go_upto_region 2 with fail
 generalize wa.alloc (.cells #[.int .i64 x.kind,.slice PA x.rs.length pc,.int .i64 x.am,.slice QA x.subs.length qc,.int .i64 x.mn,.int .i64 x.mx,.bool x.lz,.int .i64 x.ix,.string x.nm] 47)=wb at *
 clear e0 e1 e2 e3 e4 e5 e6 e7 e8 p0 p1 p2 p3 p4 p5 p6 p7 p8 hadd hz1
 generalize w.heap.size+1=xb5 at *
 generalize hxb:w.heap.size=xb3 at *
 have HXB:=ah hxb
 clear hxb
 obtain⟨e0,e1,e2,e3,e4,e5,e6,e7,e8⟩:=aI HC3.out
 have SPP:=ah (show ∀w':World,Cells w' xb5 47 #[.int .i64 x.kind,.slice PA x.rs.length pc,.int .i64 x.am,.slice QA x.subs.length qc,.int .i64 x.mn,.int .i64 x.mx,.bool x.lz,.int .i64 x.ix,.string x.nm]→Cells w' xb3 47 #[.int .i64 t.kind,.slice RA t.rs.length rc,.int .i64 t.am,.slice (some ad) t.subs.length sc,.int .i64 t.mn,.int .i64 t.mx,.bool t.lz,.int .i64 t.ix,.string t.nm]→(fun(w':World)=>w'.cell? ⟨xb5,0,none⟩=some (.int .i64 x.kind)∧w'.cell? ⟨xb5,1,none⟩=some (.slice PA x.rs.length pc)∧w'.cell? ⟨xb5,2,none⟩=some (.int .i64 x.am)∧w'.cell? ⟨xb5,3,none⟩=some (.slice QA x.subs.length qc)∧w'.cell? ⟨xb5,4,none⟩=some (.int .i64 x.mn)∧w'.cell? ⟨xb5,5,none⟩=some (.int .i64 x.mx)∧w'.cell? ⟨xb5,6,none⟩=some (.bool x.lz)∧w'.cell? ⟨xb5,7,none⟩=some (.int .i64 x.ix)∧w'.cell? ⟨xb5,8,none⟩=some (.string x.nm)∧w'.cell? ⟨xb3,0+6,none⟩=some (.bool t.lz)) w' from fun w' h5 h3=>⟨h5.ak rfl,h5.ak rfl,h5.ak rfl,h5.ak rfl,h5.ak rfl,h5.ak rfl,h5.ak rfl,h5.ak rfl,h5.ak rfl,h3.ak rfl⟩)
 have hd1:decide (t.mx < 0)=true:=decide_eq_true hmx
 go_wp2_with fail
 have HBB:=ah HA0.out.tab.eO
 have HDL:=ah HA0.out.tab.d
 clear e0 e1 e2 e3 e4 e5 e6 e7 e8
 go_loopg [6,8] N (fun gk v6 v8 wr=>∃(m:Nat) (li:List PN) (ss:List Nat) (LA:Option Addr) (lc:Nat) (Ti:Option Addr) (ci:Nat),m+gk=N∧v8=.int .i64 (m:Int)∧v6=.slice LA m lc∧ss.length=m∧((aF f gk li).1=q.1∧ss++(aF f gk li).2=q.2)∧TNx base tb S (fun b=>D b∨LA.map (·.block)=some b) wb TA li wr Ti ci∧wr.ownsRow base 3 1 (.slice LA m lc) m (bn (ss.map fun(s:Nat)=>(s:Int)))∧(∀s∈ss,s < li.length)∧(∀b,LA.map (·.block)=some b→wb.heap.size≤b))
 case atStart=>exact⟨0,l,[],none,0,TA,tc,by omega,rfl,rfl,rfl,⟨by rw[HQ.out],by rw[HQ.out];rfl⟩,(TNx.aM HA0.out.tab (Upd.refl _ _)).weakD (fun b hb=>hb.resolve_right (by simp)),World.ownsRow_nil _ _ _ _,by simp,by simp⟩
 case round =>
  obtain⟨m,li,ss,LA,lc,Ti,ci,hk2,rfl,rfl,hsl,hqq,hX,hO,hss,hfr⟩:=hrel
  have HK:=ah hk2
  have HSL:=ah hsl
  have HQQ:=ah hqq
  have HX:=ah hX
  have HO:=ah hO
  have HSS:=ah hss
  have HFR:=ah hfr
  have htw:=HA0.out.tab.size
  have c3:=HC3.out.upd hX.upd HN3.out
  have c5:=HC5.out.upd hX.upd HN5.out
  have HC3r:=ah c3
  have HC5r:=ah c5
  have HNr:=ah (HNX.out.bA hX.upd HA0.out.tab.notF)
  obtain⟨e0,e1,e2,e3,e4,e5,e6,e7,e8⟩:=aI c3
  obtain⟨p0,p1,p2,p3,p4,p5,p6,p7,p8⟩:=aI c5
  clear hk2 hsl hqq hX hO hss hfr c3 c5
  by_cases hlt:m < N
  ·have q1:(m:Int) < (N:Int):=by omega
   obtain⟨k,hk⟩:∃k,gk=k+1:=⟨gk - 1,by have:=HK.out;omega⟩
   subst hk
   have hQ2:=HQQ.out
   rw[show aF f (k+1) li=((aF f k (f li).1).1,(f li).2::(aF f k (f li).1).2) from rfl] at hQ2
   have HQQ:=ah hQ2
   have hfi:=hg.len li
   have htl:=times_len hg k (f li).1
   rw[hQ2.1] at htl
   have HLI:=ah hfi
   have hm:=HK.out
   have HF2:=ah (HF.out _ wr li Ti ci _ HX.out.tab HNr.out (by omega))
   clear hQ2 hfi htl
   go_wp2_with (first | (go_at_call 44;refine HF2.out.mono ?_;rintro e w3 ⟨rfl,T3,c3,hX3⟩;have HX3:=ah hX3;have HO3:=ah (hX3.own HX.out.tab HO.out);have hb3:=hX3.tab.eO;clear hX3) | (at_builtin;refine wpList_append_own_at _ rfl _ _ 28 rfl base 3 i0 (.int .i64 0) 1 8 Try.underlying28 hi0 hz0 hz1 hz2 rfl (by decide) (.slice LA m lc) m (bn (ss.map fun(s:Nat)=>(s:Int))) rfl (HO3.out.alloc _) ⟨w3.heap.size,0,none⟩ 1 1 [(.int .i64 ((f li).2:Int))] rfl rfl ?d1 ?d2 ?d3 ?d4 ?d5 ?_))
   case d1=>exact World.news_of_block (cs:=#[(.int .i64 ((f li).2:Int))]) (t:=3) (fr:=(0,0)) (heap_alloc_new _ _)
   case d2=>first | rfl | exact⟨rfl⟩ | trivial | (intro u hu;simp at hu;subst hu;rfl) | simp
   case d3=>unfold maxLen;omega
   case d4=>omega
   case d5=>simp;omega
   intro v4 w4 o4 g4 hb4 hat
   obtain⟨A4,c4,rfl⟩:=dG o4
   rw[jH] at o4
   have hU4:Upd (fun b=>(Value.slice LA m lc).ownBlock=some b) w3 w4:=((Upd.refl (fun b=>(Value.slice LA m lc).ownBlock=some b) w3).alloc _).grown g4 (fun b hb _=>hb)
   have hnew:∀b,A4.map (·.block)=some b→LA.map (·.block)=some b∨b=w3.heap.size+1:=fun b hb=>by
    rcases hat with hx | hx
    ·rw[aN.2 hb] at hx
     exact .inl (aN.1 hx.symm)
    ·rw[aN.2 hb] at hx
     simp at hx
     exact .inr hx
   have hs3:=HX3.out.upd.size
   have hsr:=HX.out.upd.size
   have hs4:=hU4.size
   have hT4:=HX3.out.tab.grow (D':=fun b=>D b∨A4.map (·.block)=some b) HO3.out (fun b hb=>.inr (aN.1 hb)) hU4 (fun b hb=>by
    rcases hb with hb | hb
    ·exact⟨.inl (.inl hb),by have:=HX3.out.tab.d b (.inl hb);omega⟩
    ·refine⟨?_,(o4.lt b (aN.2 hb)).2⟩
     rcases hnew b hb with h | h
     ·exact .inl (.inr h)
     ·exact .inr (by omega))
   have HX4:=ah ((HX.out.trans HX3.out htw).growO hT4 (fun b hb=>HFR.out b (aN.1 hb)) hU4)
   have HO4:=ah o4
   have HNEW:=ah hnew
   clear o4 g4 hb4 hat hU4 hT4 hnew HX3 HO3
   clear e0 e1 e2 e3 e4 e5 e6 e7 e8 p0 p1 p2 p3 p4 p5 p6 p7 p8
   go_wp2_with fail
   have hmk:=HK.out
   go_roundg k
   case measure=>omega
   case rel=>exact⟨m+1,(f li).1,ss++[(f li).2],A4,c4,T3,c3,by omega,by go_num,rfl,by simp[HSL.out],⟨HQQ.out.1,by rw[←HQQ.out.2];simp⟩,HX4.out,HO4.out,fun s hs=>by
     rcases List.mem_append.1 hs with hs | hs
     ·have:=HSS.out s hs
      have:=HLI.out.1
      omega
     ·obtain rfl:s=(f li).2:=by simpa using hs
      exact HLI.out.2,fun b hb=>by
     rcases HNEW.out b hb with h | h
     ·exact HFR.out b h
     ·omega⟩
  ·have q1:¬(m:Int) < (N:Int):=by omega
   obtain rfl:gk=0:=by have:=HK.out;omega
   obtain⟨hq1,hq2⟩:=HQQ.out
   have hqa:li=q.1:=hq1
   have hqb:ss=q.2:=by simpa [aF] using hq2
   clear hq1 hq2 HQQ
   subst hqa
   subst hqb
   have hmN:m=N:=by have:=HK.out;omega
   subst hmN
   have HW:=ah (HX.out.weakD (D':=D) (fun b hb=>.inl hb))
   have HDD:=ah (show ∀b,(Value.slice LA m lc).ownBlock=some b→¬D b from fun b hb hd=>by
    have:=HFR.out b (aN.1 hb)
    have:=HDL.out b hd
    omega)
   have hm3:m≤1000:=hN1
   clear p0 p1 p2 p3 p4 p5 p6 p7 p8
   go_upto_region 13 with fail
   clear e0 e1 e2 e3 e4 e5 e6 e7 e8
   have hUd:=(Upd.refl Nob wr).drew
   have hXd:=HX.out.tab.upd hUd
   have hn3r:¬TabF tb Ti xb3:=fun h=>by
    rcases h with h | h
    ·exact HN3.out (.inl h)
    ·rcases HX.out.new with h3 | h3
     ·exact HN3.out (.inr (by rw[←h3];exact h))
     ·have:=h3 _ h
      have:=HC3.out.lt
      omega
   have hn5r:¬TabF tb Ti xb5:=fun h=>by
    rcases h with h | h
    ·exact HN5.out (.inl h)
    ·rcases HX.out.new with h3 | h3
     ·exact HN5.out (.inr (by rw[←h3];exact h))
     ·have:=h3 _ h
      have:=HC5.out.lt
      omega
   have HD3:=ah (fun(D0:Nat→Prop) (l':List PN) (w':World) (T':Option Addr) (c':Nat) (h:TNx base tb S D0 wr.drew Ti l' w' T' c')=>(HC3r.out.upd hUd aj).upd h.upd hn3r)
   have HD5:=ah (fun(D0:Nat→Prop) (l':List PN) (w':World) (T':Option Addr) (c':Nat) (h:TNx base tb S D0 wr.drew Ti l' w' T' c')=>(HC5r.out.upd hUd aj).upd h.upd hn5r)
   have HTD:=ah hXd
   have htd:=HTD.out.size
   have HAL:=ah (fun(w1:World) (T1:Option Addr) (c1:Nat) (h:TNx base tb S (fun b=>D b∨LA.map (·.block)=some b) wr.drew Ti (f q.1).1 w1 T1 c1)=>h.trans (TNx.aM h.tab ((Upd.refl Nob w1).alloc (.cells #[.int .i64 ((f q.1).2:Int)] 3))) htd)
   have HOd:=ah (aJ HO.out hUd (fun _ _=>aj))
   have HLI:∀(w3:World) (l':List PN) (T':Option Addr) (c':Nat),TNx base tb S (fun b=>D b∨LA.map (·.block)=some b) wr.drew Ti l' w3 T' c'→∀(w4:World),Upd (fun b=>(Value.slice LA m lc).ownBlock=some b) w3 w4→Cells w4 xb5 47 #[.int .i64 x.kind,.slice PA x.rs.length pc,.int .i64 x.am,.slice QA x.subs.length qc,.int .i64 x.mn,.int .i64 x.mx,.bool x.lz,.int .i64 x.ix,.string x.nm]∧Cells w4 xb3 47 #[.int .i64 t.kind,.slice RA t.rs.length rc,.int .i64 t.am,.slice (some ad) t.subs.length sc,.int .i64 t.mn,.int .i64 t.mx,.bool t.lz,.int .i64 t.ix,.string t.nm]:=fun w3 l' T' c' h w4 hU=>by
    have ho3:=h.own HTD.out HOd.out
    have h3:=HD3.out _ _ _ _ _ h
    have h5:=HD5.out _ _ _ _ _ h
    exact⟨h5.upd hU (fun e=>own_ne ho3 h5 (by decide) e),h3.upd hU (fun e=>own_ne ho3 h3 (by decide) e)⟩
   refine rep_reg13 _ wr tb xb3 xb5 (f q.1).2 n2 m lc base LA (bn (q.2.map fun(s:Nat)=>(s:Int))) t.lz (.int .i64 x.kind) (.slice PA x.rs.length pc) (.int .i64 x.am) (.slice QA x.subs.length qc) (.int .i64 x.mn) (.int .i64 x.mx) (.bool x.lz) (.int .i64 x.ix) (.string x.nm) (fun w1=>∃T1 c1,TNx base tb S (fun b=>D b∨LA.map (·.block)=some b) wr.drew Ti (f q.1).1 w1 T1 c1) (fun w1 w3=>∃T3 c3,TNx base tb S (fun b=>D b∨LA.map (·.block)=some b) wr.drew Ti lr w3 T3 c3) _ _ _ _ _ _ _ _ _ _ _ _ _ _ _ _ _ _ _ _ _ _ _ _ _ _ _ _ _ _ _ _ _ _ _ _ _ _ _ _ _ _ _ _ _ _ _ _ _ _ _ _ _ _ _ _ _ _ _ _ _ _ _ _ _ _ _ _ _ _ _ _ _ _ _ _ _ _ _ _ (SPP.out _ HC5r.out HC3r.out) (by omega) ?_ ?_ ?_ ?_ ?_ ?_ ?_
   ·refine(HF.out _ wr.drew q.1 Ti ci _ HTD.out (HNr.out.bA hUd (fun _ _=>aj)) (by omega)).mono ?_
    rintro e w1 ⟨rfl,T1,c1,h1⟩
    exact⟨rfl,T1,c1,h1⟩
   ·rintro w1 ⟨T1,c1,h1⟩
    have h2:=HAL.out w1 T1 c1 h1
    exact⟨SPP.out _ (HD5.out _ _ _ _ _ h1) (HD3.out _ _ _ _ _ h1),SPP.out _ (HD5.out _ _ _ _ _ h2) (HD3.out _ _ _ _ _ h2)⟩
   ·rintro w1 ⟨T1,c1,h1⟩
    have h2:=HAL.out w1 T1 c1 h1
    refine(jT (x:=aX 102 [(f q.1).2] t.lz) (q:=((none,0),(some ⟨w1.heap.size,0,none⟩,1))) h2.tab (jI (one_own (f q.1).2 h1.tab.eO)) (fun b hb hd=>by have:=h1.tab.d b hd;simp[Value.ownBlock] at hb;omega) hsb (by omega) (by simp[aX])).mono ?_
    rw[HR0.out]
    rintro e w3 ⟨rfl,T3,c3,h3⟩
    exact⟨rfl,T3,c3,h2.trans h3 htd⟩
   ·rintro w1 w3 ⟨T1,c1,h1⟩ ⟨T3,c3,h3⟩
    exact SPP.out _ (HD5.out _ _ _ _ _ h3) (HD3.out _ _ _ _ _ h3)
   ·rintro w1 w3 ⟨T1,c1,h1⟩ ⟨T3,c3,h3⟩
    exact⟨h3.own HTD.out HOd.out,h3.tab.eO⟩
   ·rintro w1 w3 w4 ⟨T1,c1,h1⟩ ⟨T3,c3,h3⟩ hU
    obtain⟨k5,k3⟩:=HLI w3 _ _ _ h3 w4 hU
    exact SPP.out _ k5 k3
   ·intro _ _ _ _ _ _ _ _ _ _ _ _ w1 w3 w4 gN cN hG1 hG3 hU4 hat hlt4 o4
    obtain⟨T3,c3,h3⟩:=hG3
    have HX3:=ah ((TNx.aM HX.out.tab hUd).trans h3 HX.out.tab.size)
    have HO3:=ah (h3.own HTD.out HOd.out)
    clear hG1 h3
    rw[jH] at o4
    have hnew:∀b,(some (⟨gN,0,none⟩:Addr)).map (·.block)=some b→LA.map (·.block)=some b∨b=w3.heap.size+1:=fun b hb=>by
     have hb:gN=b:=by simpa using hb
     subst hb
     rcases hat with hx | hx
     ·exact .inl (aN.1 hx)
     ·exact .inr hx
    have hb4:True:=trivial
    have hs3:=HX3.out.upd.size
    have hsr:=HX.out.upd.size
    have hs4:=hU4.size
    have hT4:=HX3.out.tab.grow (D':=D) HO3.out (fun b hb=>.inr (aN.1 hb)) hU4 (fun b hb=>⟨.inl (.inl hb),by have:=HX3.out.tab.d b (.inl hb);omega⟩)
    have HX4:=ah ((HX.out.trans HX3.out htw).growO hT4 (fun b hb=>HFR.out b (aN.1 hb)) hU4)
    have hD4:∀b,(Value.slice (some (⟨gN,0,none⟩:Addr)) (m+1) cN).ownBlock=some b→¬D b:=fun b hb hd=>by
     have h1:=HDL.out b hd
     rcases hnew b (aN.1 hb) with h | h
     ·have:=HFR.out b h
      omega
     ·omega
    have hsl4:(q.2++[n2]).length=m+1:=by simp[HSL.out]
    have HR:=ah (row_any (ss:=q.2++[n2]) (A:=(some (⟨gN,0,none⟩:Addr))) (c:=cN) HX4.out.tab (by rw[hsl4];exact o4) (by rw[hsl4];exact hD4) (fun s hs=>by
      rcases List.mem_append.1 hs with hs | hs
      ·have:=HSS.out s hs
       have:=HLE.out.1
       omega
      ·obtain rfl:s=n2:=by simpa using hs
       exact HLE.out.2) HLE2.out (by rw[hsl4];omega))
    rw[hsl4] at HR
    clear o4 hb4 hat hU4 hT4 hnew HX3 HO3 hD4 hsl4
    go_wp2_with (go_at_call 87;refine HR.out.mono ?_;rintro e w5 ⟨rfl,T5,c5,hX5⟩)
    go_ret
    exact⟨rfl,T5,c5,(HA0.out.trans HX4.out (by rw[HXB.out];exact htb)).trans hX5 (by rw[HXB.out];exact htb)⟩
end Go.Proofs.Ytnkefclbchpafaa

/-
  The walk of heronref06's Tree.unfold: it makes unfT's row. Printed by tools/mkUnfO.py.
-/
namespace Go.Proofs.Ytnkefclbchpafaa
set_option maxRecDepth 100000
set_option maxHeartbeats 16000000
open Go.RowKit
set_option linter.unusedVariables false
def OkV (t:Tree):Prop:=((t.kind=6→0≤t.mn∧t.mn≤1000∧t.mx≤1000∧(t.mx < 0∨t.mn≤t.mx))∧(t.kind≤3→t.subs.length=0))∧∀i (h:i < t.subs.length),OkV t.subs[i]
termination_by SizeOf.sizeOf t
decreasing_by exact Tree.sub_lt (List.getElem_mem h)
theorem OkV.top {t:Tree} (h:OkV t):((t.kind=6→0≤t.mn∧t.mn≤1000∧t.mx≤1000∧(t.mx < 0∨t.mn≤t.mx))∧(t.kind≤3→t.subs.length=0))∧∀x∈t.subs,OkV x:=by
 rw[OkV] at h
 refine⟨h.1,fun x hx=>?_⟩
 obtain⟨i,hi,rfl⟩:=List.mem_iff_getElem.1 hx
 exact h.2 i hi
theorem OkV.of {t:Tree} (h:(t.kind=6→0≤t.mn∧t.mn≤1000∧t.mx≤1000∧(t.mx < 0∨t.mn≤t.mx))∧(t.kind≤3→t.subs.length=0)) (hs:∀x∈t.subs,OkV x):OkV t:=by
 rw[OkV]
 exact⟨h,fun i hi=>hs _ (List.getElem_mem hi)⟩
theorem unfT_6 {t x:Tree} (h:t.kind=6) (hx:t.subs[0]?=some x):bJ t=iJ (bJ x) t.mn t.mx t.lz:=by
 obtain⟨k,rs,am,subs,mn,mx,lz,ix,nm⟩:=t
 simp only[Tree.kind,Tree.subs,Tree.mn,Tree.mx,Tree.lz] at *
 cases subs with
 | nil=>simp at hx
 | cons y r =>
  simp at hx
  subst hx
  rw[bJ]
  funext l
  simp only[if_pos h]
  rw[unfTH]
theorem unfT_n {t:Tree} (h:¬t.kind=6) (l:List PN):bJ t l=dA ⟨t.kind,t.am,t.ix,t.rs,(bU t.subs l).2,false,0,0⟩ (bU t.subs l).1:=by
 obtain⟨k,rs,am,subs,mn,mx,lz,ix,nm⟩:=t
 simp only[Tree.kind,Tree.subs,Tree.am,Tree.ix,Tree.rs] at *
 rw[bJ]
 simp only[if_neg h]
theorem dZ.updY {w w':World} {base tb yb:Nat} {S D:Nat→Prop} {l:List PN} {TA:Option Addr} {tc:Nat} {cs:Array Value} (h:dZ w base tb S D l TA tc) (hy:Cells w yb 119 cs) (hn:¬TA.map (·.block)=some yb) (hb:base≤yb) (hU:Upd (fun b=>b=yb) w w'):dZ w' base tb S D l TA tc:=by
 obtain⟨qs,h1,h2,h3⟩:=h.row
 exact⟨h.tab.upd hU (Cells.ne_ h.tab hy (by decide)),h.lo,h.s,⟨qs,h1,aJ h2 hU (fun b hb2 e=>hn (by rw[←e];exact aN.1 hb2)),fun i x q hx hq=>⟨(h3 i x q hx hq).1.upd hU (fun b hs e=>by have:=h.s b hs;omega) (fun b hb2 e=>own_ne (h3 i x q hx hq).1.2.1 hy (by decide) (by rw[←e];exact hb2)),(h3 i x q hx hq).2⟩⟩,fun b hb=>Nat.lt_of_lt_of_le (h.d b hb) hU.size⟩
theorem unf_any {base tb:Nat} {S:Nat→Prop} (n:Nat):∀(t:Tree),SizeOf.sizeOf t≤n→OkU t→OkV t→UnfC base tb S t (bJ t):=by
 induction n with
 | zero=>exact fun t h=>by obtain⟨k,r,a,l,m,x,z,i,nn⟩:=t;simp at h
 | succ n ih =>
 intro t hn hu hv D w l TA tc cs hT hN hlen
 obtain⟨RA,rc,SA,sc,rfl,hr0,ho,hs0⟩:=hN.top
 have htb:=hT.size
 have hA1:Upd Nob w (w.alloc (.cells #[.int .i64 t.kind,.slice RA t.rs.length rc,.int .i64 t.am,.slice SA t.subs.length sc,.int .i64 t.mn,.int .i64 t.mx,.bool t.lz,.int .i64 t.ix,.string t.nm] 47)):=(Upd.refl Nob w).alloc _
 have C0:=Cells.new w 47 #[.int .i64 t.kind,.slice RA t.rs.length rc,.int .i64 t.am,.slice SA t.subs.length sc,.int .i64 t.mn,.int .i64 t.mx,.bool t.lz,.int .i64 t.ix,.string t.nm]
 have HA0:=ah (TNx.aM hT hA1)
 have HT:=ah hT
 have HNN:=ah (hN.bA hA1 (fun _ _=>aj))
 have hn3:¬TabF tb TA w.heap.size:=fun h=>by
  rcases h with h | h
  ·omega
  ·have:=(hT.gQ _ h).2;omega
 have HN3:=ah hn3
 have hbw:=hT.eO
 by_cases hk6:t.kind=6
 ·have hpos:0 < t.subs.length:=by
   have:=hu.top.1.2.2.2 (.inl hk6)
   omega
  obtain⟨x,hx⟩:∃x,t.subs[0]?=some x:=⟨_,List.getElem?_eq_getElem hpos⟩
  have hmem:=List.mem_of_getElem? hx
  have hxn:SizeOf.sizeOf x≤n:=by have:=Tree.sub_lt hmem;omega
  have hF:UnfC base tb S x (bJ x):=ih x hxn (hu.top.2 x hmem) (hv.top.2 x hmem)
  have hg:=jR x (hu.top.2 x hmem)
  obtain⟨m0,m1,m2,-⟩:=hv.top.1.1 hk6
  rw[unfT_6 hk6 hx] at hlen ⊢
  have hrep:∀(D:Nat→Prop) (w:World) (l:List PN) (TA:Option Addr) (tc:Nat) (cs:Array Value),dZ w base tb S D l TA tc→aB w S cs t→(iJ (bJ x) t.mn t.mx t.lz l).1.length≤90000→Calls Try.prog 63 #[.pointer (some ⟨tb,0,none⟩),.agg cs] w (TAns base tb S D w TA (iJ (bJ x) t.mn t.mx t.lz l)):=by
   by_cases hx0:t.mx < 0
   ·by_cases hm0:t.mn=0
    ·exact rep_star hF hg hx hx0 hm0
    ·exact rep_plus hF hg hx hx0 (by omega) m1
   ·by_cases hmm:t.mn < t.mx
    ·exact rep_opt hF hg hx hx0 m0 m2 hmm
    ·exact rep_same hF hg hx hx0 m0 m1 hmm
  have HREP:=ah (hrep D _ l TA tc _ HA0.out.tab HNN.out hlen)
  have hkb:(t.kind==6)=true:=by simpa using hk6
  unfold au at HREP ⊢
  clear hrep hF ih hT hN hA1 hr0 hs0 hu hv hk6 hn3
  go_enter Try.func44,Try.ntmps44
  go_upto_region 1 with fail
  generalize w.alloc (.cells #[.int .i64 t.kind,.slice RA t.rs.length rc,.int .i64 t.am,.slice SA t.subs.length sc,.int .i64 t.mn,.int .i64 t.mx,.bool t.lz,.int .i64 t.ix,.string t.nm] 47)=wa at *
  obtain⟨e0,e1,e2,e3,e4,e5,e6,e7,e8⟩:=aI C0
  go_wp2_with (go_at_call 63;refine HREP.out.mono ?_;rintro e w1 ⟨rfl,T1,c1,hX1⟩)
  go_ret
  exact⟨rfl,T1,c1,HA0.out.trans hX1 htb⟩
 obtain⟨lq,sq,hq⟩:∃lq sq,bU t.subs l=(lq,sq):=⟨_,_,rfl⟩
 rw[unfT_n hk6,hq] at hlen ⊢
 have hpl:=dJ ⟨t.kind,t.am,t.ix,t.rs,sq,false,0,0⟩ lq
 have hql:lq.length≤89999:=by
  have h1:(dA ⟨t.kind,t.am,t.ix,t.rs,sq,false,0,0⟩ lq).1.length≤90000:=hlen
  omega
 have HIH:=ah (show ∀x∈t.subs,UnfC base tb S x (bJ x)∧fJ (bJ x) (jS x) from fun x hx=>⟨ih x (by have:=Tree.sub_lt hx;omega) (hu.top.2 x hx) (hv.top.2 x hx),jR x (hu.top.2 x hx)⟩)
 have HLG:=ah (show ∀i l',(bU (t.subs.drop i) l').1.length≥l'.length from fun i l'=>((unfL_good (t.subs.drop i) (fun x hx=>hu.top.2 x (List.mem_of_mem_drop hx))) l').1.len)
 obtain⟨i0,hi0,hz0,hz1,hz2⟩:=info_parts iw
 have hkb:(t.kind==6)=false:=by simpa using hk6
 have HQ:=ah hq
 have HO:=ah ho
 have HC0:=ah C0
 have hz:(w.alloc (.cells #[.int .i64 t.kind,.slice RA t.rs.length rc,.int .i64 t.am,.slice SA t.subs.length sc,.int .i64 t.mn,.int .i64 t.mx,.bool t.lz,.int .i64 t.ix,.string t.nm] 47)).heap.size=w.heap.size+1:=World.size_alloc _ _
 unfold au at HNN ⊢
 clear hT hN hA1 hr0 hs0 hu hv hn3 ih hq hpl hlen ho
 go_enter Try.func44,Try.ntmps44
 go_upto_region 1 with fail
 generalize w.alloc (.cells #[.int .i64 t.kind,.slice RA t.rs.length rc,.int .i64 t.am,.slice SA t.subs.length sc,.int .i64 t.mn,.int .i64 t.mx,.bool t.lz,.int .i64 t.ix,.string t.nm] 47)=wa at *
 obtain⟨e0,e1,e2,e3,e4,e5,e6,e7,e8⟩:=aI C0
 go_upto_region 4 with fail
 have CY:=Cells.new wa 119 #[.int .i64 t.kind,.int .i64 t.am,.int .i64 t.ix,.slice RA t.rs.length rc,.slice none 0 0,.bool false,.int .i64 0,.int .i64 0]
 have hAY:Upd Nob wa (wa.alloc (.cells #[.int .i64 t.kind,.int .i64 t.am,.int .i64 t.ix,.slice RA t.rs.length rc,.slice none 0 0,.bool false,.int .i64 0,.int .i64 0] 119)):=(Upd.refl Nob wa).alloc _
 have HT0:=ah (TNx.aM HA0.out.tab hAY)
 have hay:wa.heap.size < (wa.alloc (.cells #[.int .i64 t.kind,.int .i64 t.am,.int .i64 t.ix,.slice RA t.rs.length rc,.slice none 0 0,.bool false,.int .i64 0,.int .i64 0] 119)).heap.size:=CY.lt
 have HTAN:=ah (show ¬TA.map (·.block)=some wa.heap.size from fun h=>by have:=(HA0.out.tab.gQ _ h).2;omega)
 rw[hz] at CY HTAN hay
 generalize wa.alloc (.cells #[.int .i64 t.kind,.int .i64 t.am,.int .i64 t.ix,.slice RA t.rs.length rc,.slice none 0 0,.bool false,.int .i64 0,.int .i64 0] 119)=wy at *
 clear e0 e1 e2 e3 e4 e5 e6 e7 e8 C0
 obtain⟨yb,hyb⟩:∃yb,w.heap.size+1=yb:=⟨_,rfl⟩
 rw[hyb] at CY HTAN hay hz ⊢
 have HYB:=ah (show wa.heap.size=yb∧w.heap.size < yb by omega)
 generalize hxb:w.heap.size=xb3 at *
 have HXB:=ah hxb
 have HCY:=ah CY
 clear hxb CY hyb hz hAY
 go_wp2_with fail
 go_loopg [6] t.subs.length (fun gk v6 wr=>∃(m:Nat) (li:List PN) (ss:List Nat) (LA:Option Addr) (lc:Nat) (Ti:Option Addr) (ci:Nat),m+gk=t.subs.length∧v6=.int .i64 (m:Int)∧ss.length=m∧((bU (t.subs.drop m) li).1=lq∧ss++(bU (t.subs.drop m) li).2=sq)∧TNx base tb S (fun b=>D b∨LA.map (·.block)=some b) wa TA li wr Ti ci∧wr.ownsRow base 3 1 (.slice LA m lc) m (bn (ss.map fun(s:Nat)=>(s:Int)))∧(∀s∈ss,s < li.length)∧(∀b,LA.map (·.block)=some b→wa.heap.size≤b)∧Cells wr yb 119 #[.int .i64 t.kind,.int .i64 t.am,.int .i64 t.ix,.slice RA t.rs.length rc,.slice LA m lc,.bool false,.int .i64 0,.int .i64 0]∧(¬Ti.map (·.block)=some yb)∧m≤li.length)
 case atStart=>exact⟨0,l,[],none,0,TA,tc,by omega,rfl,rfl,⟨by rw[List.drop_zero,HQ.out],by rw[List.drop_zero,HQ.out];rfl⟩,HT0.out.weakD (fun b hb=>hb.resolve_right (by simp)),World.ownsRow_nil _ _ _ _,by simp,by simp,HCY.out,HTAN.out,by omega⟩
 case round =>
  clear HCY HTAN HT0
  obtain⟨m,li,ss,LA,lc,Ti,ci,hk2,rfl,hsl,hqq,hX,hO,hss,hfr,hY,hTY,hml⟩:=hrel
  have HK:=ah hk2
  have HSL:=ah hsl
  have HQQ:=ah hqq
  have HX:=ah hX
  have HOW:=ah hO
  have HSS:=ah hss
  have HFR:=ah hfr
  have HY:=ah hY
  have HTY:=ah hTY
  have HML:=ah hml
  have htw:=HA0.out.tab.size
  have c3:=HC0.out.upd hX.upd HN3.out
  have HC3r:=ah c3
  have HNr:=ah (HNN.out.bA hX.upd HA0.out.tab.notF)
  obtain⟨e0,e1,e2,e3,e4,e5,e6,e7,e8⟩:=aI c3
  clear hk2 hsl hqq hX hO hss hfr c3 hY hTY hml
  by_cases hlt:m < t.subs.length
  ·have q1:(m:Int) < (t.subs.length:Int):=by omega
   obtain⟨ad,g,o,x,PA,pc,QA,qc,rfl,hadd,hSg,hgl,hx,hXN,hlx,hcs⟩:=aB.sub HNr.out.open_.2.2 hlt
   obtain⟨k,hk⟩:∃k,gk=k+1:=⟨gk - 1,by have:=HK.out;omega⟩
   subst hk
   obtain⟨hFx,hgx⟩:=HIH.out x (List.mem_of_getElem? hx)
   have hd:t.subs.drop m=x::t.subs.drop (m+1):=by
    rw[List.drop_eq_getElem_cons hlt]
    congr 1
    rw[List.getElem?_eq_getElem hlt] at hx
    injection hx
   have hQ2:=HQQ.out
   rw[hd,bU] at hQ2
   have HQQ:=ah hQ2
   have hfi:=hgx.len li
   have hfl0:=(hgx li).low
   have htl:=HLG.out (m+1) (bJ x li).1
   rw[hQ2.1] at htl
   have HLI:=ah (show li.length < (bJ x li).1.length∧(bJ x li).2 < (bJ x li).1.length by omega)
   have HLL:=ah (show(bJ x li).1.length≤89999 by omega)
   have HFX:=ah hFx
   have HXN:=ah hXN
   have HCS:=ah hcs
   have hm3:m≤89999:=by have:=HML.out;omega
   clear hQ2 hfi htl hd hFx hXN hcs hfl0 hlx hx
   go_upto_region 7 with fail
   clear e0 e1 e2 e3 e4 e5 e6 e7 e8
   have hUd:=(Upd.refl Nob wr).drew
   have HTD:=ah (HX.out.tab.upd hUd)
   have htd:=HTD.out.size
   have HOd:=ah (aJ HOW.out hUd (fun _ _=>aj))
   have hyl:=HY.out.lt
   have hn3r:¬TabF tb Ti xb3:=fun h=>by
    rcases h with h | h
    ·exact HN3.out (.inl h)
    ·rcases HX.out.new with h3 | h3
     ·exact HN3.out (.inr (by rw[←h3];exact h))
     ·have:=h3 _ h
      have:=HYB.out
      omega
   have hnyr:¬TabF tb Ti yb:=fun h=>by
    rcases h with h | h
    ·have:=HYB.out;rw[←h] at htw;omega
    ·exact HTY.out h
   have HK3:=ah (fun(l':List PN) (w':World) (T':Option Addr) (c':Nat) (h:TNx base tb S (fun b=>D b∨LA.map (·.block)=some b) wr.drew Ti l' w' T' c')=>And.intro ((HC3r.out.upd hUd aj).upd h.upd hn3r) (And.intro ((HY.out.upd hUd aj).upd h.upd hnyr) (fun(j:Nat) (v:Value) (hv:(au x PA pc QA qc)[j]?=some v)=>(h.upd.cell (p:=⟨g,o+j,none⟩) hgl (HTD.out.notF g hSg)).trans ((hUd.cell (p:=⟨g,o+j,none⟩) hgl aj).trans (HCS.out j v hv)))))
   have SPP:=ah (show ∀w':World,Cells w' yb 119 #[.int .i64 t.kind,.int .i64 t.am,.int .i64 t.ix,.slice RA t.rs.length rc,.slice LA m lc,.bool false,.int .i64 0,.int .i64 0]→Cells w' xb3 47 #[.int .i64 t.kind,.slice RA t.rs.length rc,.int .i64 t.am,.slice (some ad) t.subs.length sc,.int .i64 t.mn,.int .i64 t.mx,.bool t.lz,.int .i64 t.ix,.string t.nm]→(∀(j:Nat) (v:Value),(au x PA pc QA qc)[j]?=some v→w'.cell? ⟨g,o+j,none⟩=some v)→(fun(w':World)=>w'.cell? ⟨yb,0+4,none⟩=some (.slice LA m lc)∧w'.cell? ⟨xb3,0+3,none⟩=some (.slice (some ad) t.subs.length sc)∧w'.cell? ⟨g,o,none⟩=some (.int .i64 x.kind)∧w'.cell? ⟨g,o+1,none⟩=some (.slice PA x.rs.length pc)∧w'.cell? ⟨g,o+2,none⟩=some (.int .i64 x.am)∧w'.cell? ⟨g,o+3,none⟩=some (.slice QA x.subs.length qc)∧w'.cell? ⟨g,o+4,none⟩=some (.int .i64 x.mn)∧w'.cell? ⟨g,o+5,none⟩=some (.int .i64 x.mx)∧w'.cell? ⟨g,o+6,none⟩=some (.bool x.lz)∧w'.cell? ⟨g,o+7,none⟩=some (.int .i64 x.ix)∧w'.cell? ⟨g,o+8,none⟩=some (.string x.nm)) w' from fun w' h5 h3 hc=>⟨h5.ak rfl,h3.ak rfl,bH hc⟩)
   refine unf_reg7 _ wr tb xb3 yb (bJ x li).2 m lc t.subs.length sc g o base ad LA (bn (ss.map fun(s:Nat)=>(s:Int))) (.int .i64 x.kind) (.slice PA x.rs.length pc) (.int .i64 x.am) (.slice QA x.subs.length qc) (.int .i64 x.mn) (.int .i64 x.mx) (.bool x.lz) (.int .i64 x.ix) (.string x.nm) (fun w1=>∃T1 c1,TNx base tb S (fun b=>D b∨LA.map (·.block)=some b) wr.drew Ti (bJ x li).1 w1 T1 c1) _ _ _ _ _ _ _ _ _ _ _ _ _ _ _ _ _ _ _ _ _ _ _ _ _ _ _ _ _ _ _ _ _ _ _ _ _ _ _ _ (SPP.out _ HY.out HC3r.out HCS.out) (by omega) q1 hadd ?_ ?_ ?_ ?_ ?_
   ·refine(HFX.out _ wr.drew li Ti ci _ HTD.out (HXN.out.bA hUd (fun _ _=>aj)) (by have:=HLL.out;omega)).mono ?_
    rintro e w1 ⟨rfl,T1,c1,h1⟩
    exact⟨rfl,T1,c1,h1⟩
   ·rintro w1 ⟨T1,c1,h1⟩
    have h2:=h1.trans (TNx.aM h1.tab ((Upd.refl Nob w1).alloc (.cells #[.int .i64 ((bJ x li).2:Int)] 3))) htd
    obtain⟨a1,a2,a3⟩:=HK3.out _ _ _ _ h1
    obtain⟨b1,b2,b3⟩:=HK3.out _ _ _ _ h2
    exact⟨SPP.out _ a2 a1 a3,SPP.out _ b2 b1 b3⟩
   ·rintro w1 ⟨T1,c1,h1⟩
    obtain⟨a1,a2,a3⟩:=HK3.out _ _ _ _ h1
    exact⟨h1.own HTD.out HOd.out,h1.tab.eO,a2.frozen _⟩
   ·rintro w1 w4 ⟨T1,c1,h1⟩ hU
    obtain⟨a1,a2,a3⟩:=HK3.out _ _ _ _ h1
    have ho3:=h1.own HTD.out HOd.out
    have d1:=a1.upd hU (fun e=>own_ne ho3 a1 (by decide) e)
    have d2:=a2.upd hU (fun e=>own_ne ho3 a2 (by decide) e)
    exact⟨SPP.out _ d2 d1 (fun j v hv=>(hU.cell (p:=⟨g,o+j,none⟩) (Nat.lt_of_lt_of_le hgl (h1.upd.size)) (fun e=>by have hbg:base≤g:=ji ho3 e;have:=HTD.out.s g hSg;omega)).trans (a3 j v hv)),d2.frozen _⟩
   ·intro _ _ _ _ _ _ _ _ _ _ _ _ w1 w4 gN cN hG1 hU4 hat hlt4 o4
    obtain⟨T1,c1,h1⟩:=hG1
    obtain⟨a1,a2,a3⟩:=HK3.out _ _ _ _ h1
    have ho3:=h1.own HTD.out HOd.out
    have hX1:=(HX.out.trans (TNx.aM HX.out.tab hUd) htw).trans h1 htw
    have hY4:=a2.upd hU4 (fun e=>own_ne ho3 a2 (by decide) e)
    have hnew:LA.map (·.block)=some gN∨gN=w1.heap.size+1:=by
     rcases hat with hx | hx
     ·exact .inl (aN.1 hx)
     ·exact .inr hx
    have hs1:=h1.upd.size
    have hs1':wr.heap.size≤w1.heap.size:=hs1
    have hsa:=HX.out.upd.size
    have hs4:=hU4.size
    have hT4:=h1.tab.grow (D':=fun b=>D b∨(some (⟨gN,0,none⟩:Addr)).map (·.block)=some b) ho3 (fun b hb=>.inr (aN.1 hb)) hU4 (fun b hb=>by
     rcases hb with hb | hb
     ·exact⟨.inl (.inl hb),by have:=h1.tab.d b (.inl hb);omega⟩
     ·have hb:gN=b:=by simpa using hb
      subst hb
      refine⟨?_,hlt4⟩
      rcases hnew with h | h
      ·exact .inl (.inr h)
      ·exact .inr (by omega))
    have hX4:=hX1.growO hT4 (fun b hb=>HFR.out b (aN.1 hb)) hU4
    have hT1y:¬T1.map (·.block)=some yb:=fun h=>by
     rcases h1.new with h3 | h3
     ·exact HTY.out (by rw[←h3];exact h)
     ·have h5:wr.heap.size≤yb:=h3 _ h
      omega
    rw[jH] at o4
    have hUy:=(Upd.refl (fun b=>b=yb) w4).setCell ⟨yb,0+4,none⟩ (.slice (some ⟨gN,0,none⟩) (m+1) cN) (fun _=>rfl)
    have hY5:Cells (w4.setCell ⟨yb,0+4,none⟩ (.slice (some ⟨gN,0,none⟩) (m+1) cN)) yb 119 #[.int .i64 t.kind,.int .i64 t.am,.int .i64 t.ix,.slice RA t.rs.length rc,.slice (some ⟨gN,0,none⟩) (m+1) cN,.bool false,.int .i64 0,.int .i64 0]:=hY4.aW 4 _
    have hT5:=hT4.updY hY4 hT1y (by have:=HYB.out;omega) hUy
    have hX5:TNx base tb S (fun b=>D b∨(some (⟨gN,0,none⟩:Addr)).map (·.block)=some b) wa TA (bJ x li).1 (w4.setCell ⟨yb,0+4,none⟩ (.slice (some ⟨gN,0,none⟩) (m+1) cN)) T1 c1:=⟨hT5,hX4.upd.trans hUy (fun b hb e=>by have:=HYB.out;omega),hX4.new⟩
    have o5:=aJ o4 hUy (fun b hb e=>by subst e;exact own_ne o4 hY4 (by decide) hb)
    generalize w4.setCell ⟨yb,0+4,none⟩ (.slice (some ⟨gN,0,none⟩) (m+1) cN)=w5 at *
    have HX5:=ah hX5
    have HY5:=ah hY5
    have HO5:=ah o5
    have HNEW:=ah hnew
    have HT1Y:=ah hT1y
    clear h1 a1 a2 a3 ho3 hX1 hY4 hnew hT4 hX4 hT1y hUy hY5 hT5 hX5 o5 o4 hat hU4
    go_wp2_with fail
    have hmk:=HK.out
    go_roundg k
    case measure=>omega
    case rel=>exact⟨m+1,(bJ x li).1,ss++[(bJ x li).2],some ⟨gN,0,none⟩,cN,T1,c1,by omega,by go_num,by simp[HSL.out],⟨HQQ.out.1,by rw[←HQQ.out.2];simp⟩,HX5.out,HO5.out,fun s hs=>by
      rcases List.mem_append.1 hs with hs | hs
      ·have:=HSS.out s hs
       have:=HLI.out.1
       omega
      ·obtain rfl:s=(bJ x li).2:=by simpa using hs
       exact HLI.out.2,fun b hb=>by
      have hb:gN=b:=by simpa using hb
      subst hb
      rcases HNEW.out with h | h
      ·exact HFR.out _ h
      ·omega,HY5.out,HT1Y.out,by have:=HLI.out.1;have:=HML.out;omega⟩
  ·have q1:¬(m:Int) < (t.subs.length:Int):=by omega
   obtain rfl:m=t.subs.length:=by have:=HK.out;omega
   have hQ2:=HQQ.out
   rw[List.drop_length,bU] at hQ2
   have hqa:li=lq:=hQ2.1
   have hqb:ss=sq:=by simpa using hQ2.2
   clear hQ2 HQQ
   subst hqa
   subst hqb
   have HW:=ah (HX.out.weakD (D':=D) (fun b hb=>.inl hb))
   have hND:∀b,(Value.slice LA ss.length lc).ownBlock=some b→¬D b:=fun b hb hd=>by
    have:=HFR.out b (aN.1 hb)
    have:=HA0.out.tab.d b hd
    omega
   have hOO:wr.ownsRow base 3 1 (.slice LA ss.length lc) ss.length (bn (ss.map fun(s:Nat)=>(s:Int))):=by rw[HSL.out];exact HOW.out
   have hNO:jk wr base S ⟨t.kind,t.am,t.ix,t.rs,ss,false,0,0⟩ ((RA,rc),(LA,lc)):=⟨HNr.out.open_.1,hOO,HO.out.a,HO.out.i⟩
   have hP:=jT HW.out.tab hNO hND HSS.out (by omega) (by show ss.length≤1000000;rw[HSL.out];have:=HML.out;omega)
   simp only at hP
   rw[HSL.out] at hP
   have HP:=ah hP
   clear hP hNO hOO hND hlt
   obtain⟨y0,y1,y2,y3,y4,y5,y6,y7⟩:wr.cell? ⟨yb,0,none⟩=some (.int .i64 t.kind)∧wr.cell? ⟨yb,1,none⟩=some (.int .i64 t.am)∧wr.cell? ⟨yb,2,none⟩=some (.int .i64 t.ix)∧wr.cell? ⟨yb,3,none⟩=some (.slice RA t.rs.length rc)∧wr.cell? ⟨yb,4,none⟩=some (.slice LA t.subs.length lc)∧wr.cell? ⟨yb,5,none⟩=some (.bool false)∧wr.cell? ⟨yb,6,none⟩=some (.int .i64 0)∧wr.cell? ⟨yb,7,none⟩=some (.int .i64 0):=⟨HY.out.ak rfl,HY.out.ak rfl,HY.out.ak rfl,HY.out.ak rfl,HY.out.ak rfl,HY.out.ak rfl,HY.out.ak rfl,HY.out.ak rfl⟩
   go_wp2_with (go_at_call 64;refine HP.out.mono ?_;rintro e w5 ⟨rfl,T5,c5,hX5⟩)
   go_ret
   exact⟨rfl,T5,c5,(HA0.out.trans HW.out (by rw[HXB.out];exact htb)).trans hX5 (by rw[HXB.out];exact htb)⟩
end Go.Proofs.Ytnkefclbchpafaa
