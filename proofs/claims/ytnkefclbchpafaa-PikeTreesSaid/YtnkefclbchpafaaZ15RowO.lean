/-
  PutO, UnfG, RowO, put together.
-/
import Derived.Test.YtnkefclbchpafaaZ07Tab
import Derived.Test.YtnkefclbchpafaaZ14Held
import Derived.StillTailTactics
import Derived.Deep.AppendLies
import Derived.Test.YtnkefclbchpafaaZ03RunP

/-
  The walk of heronref06's Tree.put. Printed by tools/mkPut.py.
-/
namespace Go.Proofs.Ytnkefclbchpafaa
set_option maxRecDepth 100000
set_option maxHeartbeats 16000000
open Go.RowKit
set_option linter.unusedVariables false
theorem pinfo_node:(Try.prog.info? 119).map (fun i=>(i.zero,i.size,i.bytes))=some (some (.agg #[.int .i64 0,.int .i64 0,.int .i64 0,.slice none 0 0,.slice none 0 0,.bool false,.int .i64 0,.int .i64 0]),8,96):=by kernel_rfl
theorem put_reg3 (Q:Exit→Act→World→Prop) (wr:World) (tb xb n tc base:Nat) (TA:Option Addr) (a0 a1 a2 a3 a4 a5 a6 a7:Value) (vs:List Value) (x1 x2 x4 x5 x6 x7 x8 x9 x10 x11 x12 x13 x14 x15 x16 x17 x18 x19 x20 x21 x22 x23 x24 x25 x26 x27 x28 x29 x30 x31 x32 x33 x34 x35 x36 x37 x38 x39 x40 x41 x42 x43 x44 x45 x46 x47 x48 x49 x50 x51 x52 x53 x54:Value)
  (hT:Cells wr tb 96 #[.slice TA n tc]) (hX:Cells wr xb 119 #[a0,a1,a2,a3,a4,a5,a6,a7]) (hO:wr.ownsRow base 119 8 (.slice TA n tc) n vs) (hn:n≤100000) (hbase:base≤wr.heap.size) (hxo:(Value.slice TA n tc).ownBlock≠some xb)
  (b0:a0.oneCell'=true) (b1:a1.oneCell'=true) (b2:a2.oneCell'=true) (b3:a3.oneCell'=true) (b4:a4.oneCell'=true) (b5:a5.oneCell'=true) (b6:a6.oneCell'=true) (b7:a7.oneCell'=true)
  (hnext:∀(v13 v14 v15 v16 v17 v18 v19 v20 v21 v22:Value) (wN:World) (gN cN:Nat),Upd (fun b=>(Value.slice TA n tc).ownBlock=some b) wr wN→((Value.slice TA n tc).ownBlock=some gN∨gN=wr.heap.size+1)→gN < wN.heap.size →
   Cells wN tb 96 #[.slice TA n tc]→Cells wN xb 119 #[a0,a1,a2,a3,a4,a5,a6,a7]→wN.ownsRow base 119 8 (.slice (some ⟨gN,0,none⟩) (n+1) cN) (n+1) (vs++[a0,a1,a2,a3,a4,a5,a6,a7]) →
   Q .normal ⟨#[.pointer (some ⟨tb,0,none⟩),x1,x2,.pointer (some ⟨xb,0,none⟩),x4,x5,x6,x7,x8,x9,x10,x11,x12,v13,v14,v15,v16,v17,v18,v19,v20,v21,v22,x23,x24,x25,x26,x27,x28,x29,x30,x31,x32,x33,x34,x35,x36,x37,x38,x39,x40,x41,x42,x43,x44,x45,x46,x47,x48,x49,x50,x51,x52,x53,x54],[]⟩ (wN.setCell ⟨tb,0,none⟩ (.slice (some ⟨gN,0,none⟩) (n+1) cN))) :
  (Code.region 3 #[{ dst:=some 13,op:=Op.move (Operand.tmp 0),type:=93,pos:= "ref.go:69",after:=#[],guard:=none },
  { dst:=some 14,op:=Op.move (Operand.tmp 0),type:=93,pos:= "ref.go:69",after:=#[],guard:=none },
  { dst:=some 15,op:=Op.nilCheck (Operand.tmp 14),type:=0,pos:= "ref.go:69",after:=#[{ on:=1,ground:=.data }],guard:=none },
  { dst:=some 16,op:=Op.fieldAddr 96 (Operand.tmp 15) 0,type:=0,pos:= "ref.go:69",after:=#[{ on:=2,ground:=.data }],guard:=none },
  { dst:=some 17,op:=Op.load 94 (Operand.tmp 16),type:=94,pos:= "ref.go:69",after:=#[{ on:=3,ground:=.data }],guard:=none },
  { dst:=some 18,op:=Op.load 119 (Operand.tmp 3),type:=119,pos:= "ref.go:69",after:=#[],guard:=none },
  { dst:=some 19,op:=Op.buildSlice 94 1 #[(0,Operand.tmp 18)],type:=94,pos:= "ref.go:69",after:=#[{ on:=5,ground:=.data }],guard:=none },
  { dst:=some 20,op:=Op.call { callee:=Callee.builtin Builtin.append,args:=#[Operand.tmp 17,Operand.tmp 19],argTypes:=#[94, 94] },type:=94,pos:= "ref.go:69",after:=#[{ on:=4,ground:=.data },{ on:=6,ground:=.data }],guard:=none },
  { dst:=some 21,op:=Op.nilCheck (Operand.tmp 13),type:=0,pos:= "ref.go:69",after:=#[{ on:=0,ground:=.data },{ on:=0,ground:=.phase },{ on:=1,ground:=.phase },{ on:=2,ground:=.phase },{ on:=3,ground:=.phase },{ on:=4,ground:=.phase },{ on:=5,ground:=.phase },{ on:=6,ground:=.phase },{ on:=7,ground:=.phase }],guard:=none },
  { dst:=some 22,op:=Op.fieldAddr 96 (Operand.tmp 21) 0,type:=0,pos:= "ref.go:69",after:=#[{ on:=8,ground:=.data },{ on:=0,ground:=.phase },{ on:=1,ground:=.phase },{ on:=2,ground:=.phase },{ on:=3,ground:=.phase },{ on:=4,ground:=.phase },{ on:=5,ground:=.phase },{ on:=6,ground:=.phase },{ on:=7,ground:=.phase }],guard:=none },
  { dst:=none,op:=Op.store 94 (Operand.tmp 22) (Operand.tmp 20),type:=0,pos:= "ref.go:69",after:=#[{ on:=9,ground:=.data },{ on:=7,ground:=.data },{ on:=7,ground:=.chain },{ on:=0,ground:=.phase },{ on:=1,ground:=.phase },{ on:=2,ground:=.phase },{ on:=3,ground:=.phase },{ on:=4,ground:=.phase },{ on:=5,ground:=.phase },{ on:=6,ground:=.phase },{ on:=7,ground:=.phase }],guard:=none }] true).wp Try.prog Q ⟨#[.pointer (some ⟨tb,0,none⟩),x1,x2,.pointer (some ⟨xb,0,none⟩),x4,x5,x6,x7,x8,x9,x10,x11,x12,x13,x14,x15,x16,x17,x18,x19,x20,x21,x22,x23,x24,x25,x26,x27,x28,x29,x30,x31,x32,x33,x34,x35,x36,x37,x38,x39,x40,x41,x42,x43,x44,x45,x46,x47,x48,x49,x50,x51,x52,x53,x54],[]⟩ wr:=by
 obtain⟨i0,hi0,hz0,hz1,hz2⟩:=info_parts pinfo_node
 have HT:=ah hT
 have HX:=ah hX
 have HY:=ah hnext
 have HO:=ah hO
 have HNX:=ah hxo
 clear hT hX hnext hO hxo
 refine Code.wp_mono (QuietQ.imp (G:=fun _ _ _=>False) (fun _ _ _ h=>h.elim)) ?_
 refine aP.begin 10 (fun w'=>w'.cell? ⟨tb,0,none⟩=some (.slice TA n tc)∧w'.cell? ⟨xb,0,none⟩=some a0∧w'.cell? ⟨xb,1,none⟩=some a1∧w'.cell? ⟨xb,2,none⟩=some a2∧w'.cell? ⟨xb,3,none⟩=some a3∧w'.cell? ⟨xb,4,none⟩=some a4∧w'.cell? ⟨xb,5,none⟩=some a5∧w'.cell? ⟨xb,6,none⟩=some a6∧w'.cell? ⟨xb,7,none⟩=some a7) (by kernel_rfl) ⟨HT.out.ak rfl,HX.out.ak rfl,HX.out.ak rfl,HX.out.ak rfl,HX.out.ak rfl,HX.out.ak rfl,HX.out.ak rfl,HX.out.ak rfl,HX.out.ak rfl⟩ (fun hSS=>?_)
 refine aP.take (i:=0) (oi:={ dst:=some 13,op:=Op.move (Operand.tmp 0),type:=93,pos:= "ref.go:69",after:=#[],guard:=none }) (v:=?v0nh1) ?a0nh1 ?b0nh1 ?c0nh1 ?d0nh1 ?e0nh1 (fun _ _ _ h=>h) (Or.inl ⟨?f0nh1,?y0nh1⟩) (by assumption) ?r0nh1
 case a0nh1=>rfl
 case b0nh1=>kernel_rfl
 case c0nh1=>kernel_rfl
 case d0nh1=>kernel_rfl
 case e0nh1=>kernel_rfl
 case f0nh1=>rfl
 case y0nh1=>(intro w' hSw;(try dsimp only at hSw);obtain⟨sT,s0,s1,s2,s3,s4,s5,s6,s7⟩:=hSw;go_simp;try with_reducible rfl)
 try simp only[Act.put,List.setIfInBounds_toArray,List.set_cons_zero,List.set_cons_succ]
 refine aP.take (i:=1) (oi:={ dst:=some 14,op:=Op.move (Operand.tmp 0),type:=93,pos:= "ref.go:69",after:=#[],guard:=none }) (v:=?v1nh2) ?a1nh2 ?b1nh2 ?c1nh2 ?d1nh2 ?e1nh2 (fun _ _ _ h=>h) (Or.inl ⟨?f1nh2,?y1nh2⟩) (by assumption) ?r1nh2
 case a1nh2=>rfl
 case b1nh2=>kernel_rfl
 case c1nh2=>kernel_rfl
 case d1nh2=>kernel_rfl
 case e1nh2=>kernel_rfl
 case f1nh2=>rfl
 case y1nh2=>(intro w' hSw;(try dsimp only at hSw);obtain⟨sT,s0,s1,s2,s3,s4,s5,s6,s7⟩:=hSw;go_simp;try with_reducible rfl)
 try simp only[Act.put,List.setIfInBounds_toArray,List.set_cons_zero,List.set_cons_succ]
 refine aP.take (i:=2) (oi:={ dst:=some 15,op:=Op.nilCheck (Operand.tmp 14),type:=0,pos:= "ref.go:69",after:=#[{ on:=1,ground:=.data }],guard:=none }) (v:=?v2nh3) ?a2nh3 ?b2nh3 ?c2nh3 ?d2nh3 ?e2nh3 (fun _ _ _ h=>h) (Or.inl ⟨?f2nh3,?y2nh3⟩) (by assumption) ?r2nh3
 case a2nh3=>rfl
 case b2nh3=>kernel_rfl
 case c2nh3=>kernel_rfl
 case d2nh3=>kernel_rfl
 case e2nh3=>kernel_rfl
 case f2nh3=>rfl
 case y2nh3=>(intro w' hSw;(try dsimp only at hSw);obtain⟨sT,s0,s1,s2,s3,s4,s5,s6,s7⟩:=hSw;go_simp;try with_reducible rfl)
 try simp only[Act.put,List.setIfInBounds_toArray,List.set_cons_zero,List.set_cons_succ]
 refine aP.take (i:=3) (oi:={ dst:=some 16,op:=Op.fieldAddr 96 (Operand.tmp 15) 0,type:=0,pos:= "ref.go:69",after:=#[{ on:=2,ground:=.data }],guard:=none }) (v:=?v3nh4) ?a3nh4 ?b3nh4 ?c3nh4 ?d3nh4 ?e3nh4 (fun _ _ _ h=>h) (Or.inl ⟨?f3nh4,?y3nh4⟩) (by assumption) ?r3nh4
 case a3nh4=>rfl
 case b3nh4=>kernel_rfl
 case c3nh4=>kernel_rfl
 case d3nh4=>kernel_rfl
 case e3nh4=>kernel_rfl
 case f3nh4=>rfl
 case y3nh4=>(intro w' hSw;(try dsimp only at hSw);obtain⟨sT,s0,s1,s2,s3,s4,s5,s6,s7⟩:=hSw;go_simp;try with_reducible rfl)
 try simp only[Act.put,List.setIfInBounds_toArray,List.set_cons_zero,List.set_cons_succ]
 refine aP.take (i:=4) (oi:={ dst:=some 17,op:=Op.load 94 (Operand.tmp 16),type:=94,pos:= "ref.go:69",after:=#[{ on:=3,ground:=.data }],guard:=none }) (v:=?v4nh5) ?a4nh5 ?b4nh5 ?c4nh5 ?d4nh5 ?e4nh5 (fun _ _ _ h=>h) (Or.inl ⟨?f4nh5,?y4nh5⟩) (by assumption) ?r4nh5
 case a4nh5=>rfl
 case b4nh5=>kernel_rfl
 case c4nh5=>kernel_rfl
 case d4nh5=>kernel_rfl
 case e4nh5=>kernel_rfl
 case f4nh5=>rfl
 case y4nh5=>(intro w' hSw;(try dsimp only at hSw);obtain⟨sT,s0,s1,s2,s3,s4,s5,s6,s7⟩:=hSw;go_simp;try with_reducible rfl)
 try simp only[Act.put,List.setIfInBounds_toArray,List.set_cons_zero,List.set_cons_succ]
 refine aP.take (i:=5) (oi:={ dst:=some 18,op:=Op.load 119 (Operand.tmp 3),type:=119,pos:= "ref.go:69",after:=#[],guard:=none }) (v:=?v5nh6) ?a5nh6 ?b5nh6 ?c5nh6 ?d5nh6 ?e5nh6 (fun _ _ _ h=>h) (Or.inl ⟨?f5nh6,?y5nh6⟩) (by assumption) ?r5nh6
 case a5nh6=>rfl
 case b5nh6=>kernel_rfl
 case c5nh6=>kernel_rfl
 case d5nh6=>kernel_rfl
 case e5nh6=>kernel_rfl
 case f5nh6=>rfl
 case y5nh6=>(intro w' hSw;(try dsimp only at hSw);obtain⟨sT,s0,s1,s2,s3,s4,s5,s6,s7⟩:=hSw;go_simp;try with_reducible rfl)
 try simp only[Act.put,List.setIfInBounds_toArray,List.set_cons_zero,List.set_cons_succ]
 refine aP.one (i:=6) (o:={ dst:=some 19,op:=Op.buildSlice 94 1 #[(0,Operand.tmp 18)],type:=94,pos:= "ref.go:69",after:=#[{ on:=5,ground:=.data }],guard:=none }) ?ph7 ?qh7 ?_
 case ph7=>kernel_rfl
 case qh7=>rfl
 intro K' hK
 go_simp
 have U9:=((Upd.refl Nob wr).drew).alloc (.cells #[a0,a1,a2,a3,a4,a5,a6,a7] 119)
 have T9:=HT.out.upd U9 aj
 have X9:=HX.out.upd U9 aj
 refine hK.out _ _ (.inr ⟨T9.ak rfl,X9.ak rfl,X9.ak rfl,X9.ak rfl,X9.ak rfl,X9.ak rfl,X9.ak rfl,X9.ak rfl,X9.ak rfl⟩) ?_;clear hK K'
 try simp only[Act.put,List.setIfInBounds_toArray,List.set_cons_zero,List.set_cons_succ]
 refine aP.one (i:=7) (o:={ dst:=some 20,op:=Op.call { callee:=Callee.builtin Builtin.append,args:=#[Operand.tmp 17,Operand.tmp 19],argTypes:=#[94, 94] },type:=94,pos:= "ref.go:69",after:=#[{ on:=4,ground:=.data },{ on:=6,ground:=.data }],guard:=none }) ?ph8 ?qh8 ?_
 case ph8=>kernel_rfl
 case qh8=>rfl
 intro K' hK
 have P9:=aJ HO.out U9 (fun _ _=>aj)
 refine step_append_lies _ rfl (.tmp 17) (.tmp 19) 94 rfl base 119 i0 _ 8 96 Try.underlying94 hi0 hz0 hz1 hz2 rfl (by decide) (.slice TA n tc) n vs (by rfl) P9 ⟨wr.heap.size,0,none⟩ 1 1 [a0,a1,a2,a3,a4,a5,a6,a7] (by rfl) (by rfl) (World.news_of_block (cs:=#[a0,a1,a2,a3,a4,a5,a6,a7]) (t:=119) (fr:=(0,0)) (heap_alloc_new wr.drew _)) (by intro u hu;simp at hu;rcases hu with rfl | rfl | rfl | rfl | rfl | rfl | rfl | rfl <;> assumption) (by decide) (by unfold maxLen;omega) (by omega) (by simp;omega) (wr.heap.size+1) (by simp) ?_
 intro gN cN wN oN gr hat hltN
 have UB:=(Upd.refl (fun b=>(Value.slice TA n tc).ownBlock=some b) (wr.drew.alloc (.cells #[a0,a1,a2,a3,a4,a5,a6,a7] 119))).grown gr (fun b hb _=>hb)
 have TN:=T9.upd UB (own_ne P9 T9 (by decide))
 have XN:=X9.upd UB HNX.out
 refine hK.out _ _ (.inr ⟨TN.ak rfl,XN.ak rfl,XN.ak rfl,XN.ak rfl,XN.ak rfl,XN.ak rfl,XN.ak rfl,XN.ak rfl,XN.ak rfl⟩) ?_;clear hK K'
 try simp only[Act.put,List.setIfInBounds_toArray,List.set_cons_zero,List.set_cons_succ]
 have x4:wN.cell? ⟨tb,0,none⟩=some (.slice TA n tc):=TN.ak rfl
 have z4:wN.frozen? ⟨tb,0,none⟩=false:=TN.frozen _
 refine aP.one (i:=8) (o:={ dst:=some 21,op:=Op.nilCheck (Operand.tmp 13),type:=0,pos:= "ref.go:69",after:=#[{ on:=0,ground:=.data },{ on:=0,ground:=.phase },{ on:=1,ground:=.phase },{ on:=2,ground:=.phase },{ on:=3,ground:=.phase },{ on:=4,ground:=.phase },{ on:=5,ground:=.phase },{ on:=6,ground:=.phase },{ on:=7,ground:=.phase }],guard:=none }) ?ph9 ?qh9 ?_
 case ph9=>kernel_rfl
 case qh9=>rfl
 intro K' hK
 go_simp
 refine hK.out _ _ (.inr ⟨TN.ak rfl,XN.ak rfl,XN.ak rfl,XN.ak rfl,XN.ak rfl,XN.ak rfl,XN.ak rfl,XN.ak rfl,XN.ak rfl⟩) ?_;clear hK K'
 try simp only[Act.put,List.setIfInBounds_toArray,List.set_cons_zero,List.set_cons_succ]
 have hSN:(fun w'=>w'.cell? ⟨tb,0,none⟩=some (.slice TA n tc)∧w'.cell? ⟨xb,0,none⟩=some a0∧w'.cell? ⟨xb,1,none⟩=some a1∧w'.cell? ⟨xb,2,none⟩=some a2∧w'.cell? ⟨xb,3,none⟩=some a3∧w'.cell? ⟨xb,4,none⟩=some a4∧w'.cell? ⟨xb,5,none⟩=some a5∧w'.cell? ⟨xb,6,none⟩=some a6∧w'.cell? ⟨xb,7,none⟩=some a7) wN:=⟨TN.ak rfl,XN.ak rfl,XN.ak rfl,XN.ak rfl,XN.ak rfl,XN.ak rfl,XN.ak rfl,XN.ak rfl,XN.ak rfl⟩
 refine aP.take (i:=9) (oi:={ dst:=some 22,op:=Op.fieldAddr 96 (Operand.tmp 21) 0,type:=0,pos:= "ref.go:69",after:=#[{ on:=8,ground:=.data },{ on:=0,ground:=.phase },{ on:=1,ground:=.phase },{ on:=2,ground:=.phase },{ on:=3,ground:=.phase },{ on:=4,ground:=.phase },{ on:=5,ground:=.phase },{ on:=6,ground:=.phase },{ on:=7,ground:=.phase }],guard:=none }) (v:=?v9nh10) ?a9nh10 ?b9nh10 ?c9nh10 ?d9nh10 ?e9nh10 (fun _ _ _ h=>h) (Or.inl ⟨?f9nh10,?y9nh10⟩) (by assumption) ?r9nh10
 case a9nh10=>rfl
 case b9nh10=>kernel_rfl
 case c9nh10=>kernel_rfl
 case d9nh10=>kernel_rfl
 case e9nh10=>kernel_rfl
 case f9nh10=>rfl
 case y9nh10=>(intro w' hSw;(try dsimp only at hSw);obtain⟨sT,s0,s1,s2,s3,s4,s5,s6,s7⟩:=hSw;go_simp;try with_reducible rfl)
 try simp only[Act.put,List.setIfInBounds_toArray,List.set_cons_zero,List.set_cons_succ]
 refine aP.one (i:=10) (o:={ dst:=none,op:=Op.store 94 (Operand.tmp 22) (Operand.tmp 20),type:=0,pos:= "ref.go:69",after:=#[{ on:=9,ground:=.data },{ on:=7,ground:=.data },{ on:=7,ground:=.chain },{ on:=0,ground:=.phase },{ on:=1,ground:=.phase },{ on:=2,ground:=.phase },{ on:=3,ground:=.phase },{ on:=4,ground:=.phase },{ on:=5,ground:=.phase },{ on:=6,ground:=.phase },{ on:=7,ground:=.phase }],guard:=none }) ?ph11 ?qh11 ?_
 case ph11=>kernel_rfl
 case qh11=>rfl
 intro K' hK
 go_simp
 refine hK.out _ _ (.inl rfl) ?_;clear hK K'
 refine aP.done ?_ ?_ _
 ·kernel_rfl
 exact HY.out _ _ _ _ _ _ _ _ _ _ wN gN cN ((U9.mono (fun _ _ h=>absurd h aj)).trans UB (fun _ _ h=>h)) hat hltN TN XN oN
theorem jk.put {w:World} {base:Nat} {S:Nat→Prop} {x y:PN} {q:Q4} (h:jk w base S x q) (h1:y.rs=x.rs) (h2:y.subs=x.subs) (h3:y.asr=x.asr) (h4:y.ix=x.ix):jk w base S y q:=by
 unfold jk
 rw[h1,h2,h3,h4]
 exact h
theorem put_added {w w2 wN:World} {base tb gN cN tc:Nat} {S D:Nat→Prop} {l:List PN} {TA:Option Addr} {x:PN} {q:Q4} (hT:dZ w base tb S D l TA tc) (hN:jk w base S x q) (hND:∀b,(Value.slice q.2.1 x.subs.length q.2.2).ownBlock=some b→¬D b) (hU2:Upd Nob w w2) (hUN:Upd (fun b=>(Value.slice TA l.length tc).ownBlock=some b) w2 wN)
  (hat:(Value.slice TA l.length tc).ownBlock=some gN∨gN=w2.heap.size+1) (TN:Cells wN tb 96 #[.slice TA l.length tc]) {qs:List Q4} (hq:qs.length=l.length)
  (hO:w.ownsRow base 119 8 (.slice TA l.length tc) l.length (iN l qs)) (hOn:∀(i:Nat) (x:PN) (q:Q4),l[i]?=some x→qs[i]?=some q→jk w base S x q∧∀b,(Value.slice q.2.1 x.subs.length q.2.2).ownBlock=some b→¬D b)
  (oN:wN.ownsRow base 119 8 (.slice (some ⟨gN,0,none⟩) (l.length+1) cN) (l.length+1) (iN l qs++ndL x q)) :
  TNx base tb S D w TA (l++[x]) (wN.setCell ⟨tb,0,none⟩ (.slice (some ⟨gN,0,none⟩) (l.length+1) cN)) (some ⟨gN,0,none⟩) cN:=by
 have htb:=hT.size
 have hs2:=hU2.size
 have hUA:Upd (TabF tb TA) w wN:=(hU2.mono (fun _ _ h=>absurd h aj)).trans (hUN.mono (fun b _ h=>.inr (aN.1 h))) (fun _ _ h=>h)
 have hUF:=hUA.setCell ⟨tb,0,none⟩ (.slice (some ⟨gN,0,none⟩) (l.length+1) cN) (fun _=>.inl rfl)
 have hF:Upd (fun b=>b=tb) wN (wN.setCell ⟨tb,0,none⟩ (.slice (some ⟨gN,0,none⟩) (l.length+1) cN)):=(Upd.refl (fun b=>b=tb) wN).setCell _ _ (fun _=>rfl)
 have keep:∀ {y:PN} {r:Q4},jk w base S y r→jk (wN.setCell ⟨tb,0,none⟩ (.slice (some ⟨gN,0,none⟩) (l.length+1) cN)) base S y r:=fun h=>h.upd hUF hT.notF (hT.ints h.2.1)
 refine⟨⟨?_,hT.lo,hT.s,⟨qs++[q],by simp[hq],?_,fun i y r hy hr=>?_⟩,fun b hb=>Nat.lt_of_lt_of_le (hT.d b hb) hUF.size⟩,hUF,?_⟩
 ·simp only[List.length_append,List.length_singleton]
  exact TN.aW 0 _
 ·rw[flatN_append _ _ _ _ hq]
  simp only[List.length_append,List.length_singleton]
  exact aJ oN hF (fun b hb e=>by subst e;exact own_ne oN TN (by decide) hb)
 ·by_cases hil:i < l.length
  ·rw[List.getElem?_append_left hil] at hy
   rw[List.getElem?_append_left (by omega)] at hr
   exact⟨keep (hOn i y r hy hr).1,(hOn i y r hy hr).2⟩
  ·have hi1:i=l.length:=by
    have:=(List.getElem?_eq_some_iff.1 hy).1
    simp at this
    omega
   subst hi1
   rw[List.getElem?_append_right (by omega)] at hy hr
   simp[hq] at hy hr
   subst hy hr
   exact⟨keep hN,hND⟩
 ·rcases hat with h | h
  ·exact .inl (by rw[aN.1 h];rfl)
  ·refine .inr (fun b hb=>?_)
   have:gN=b:=by simpa using hb
   omega
theorem put_linked {w wr:World} {base tb g c s n k:Nat} {S D:Nat→Prop} {li l0:List PN} {TA:Option Addr} {tc0:Nat} (h:TNx base tb S D w TA li wr (some ⟨g,0,none⟩) c) (hT:dZ w base tb S D l0 TA tc0) (hs:s < li.length) {wm:World} (hm:Upd Nob (wr.setCell ⟨g,s*8+6,none⟩ (.int .i64 (n:Int))) wm) :
  TNx base tb S D w TA (fK li s n k) (wm.setCell ⟨g,s*8+7,none⟩ (.int .i64 (k:Int))) (some ⟨g,0,none⟩) c:=by
 obtain⟨qs,hq,hO,hOn⟩:=h.tab.row
 obtain⟨w',hw'⟩:∃w',wm.setCell ⟨g,s*8+7,none⟩ (.int .i64 (k:Int))=w':=⟨_,rfl⟩
 have hU:Upd (fun b=>b=g) wr w':=by
  rw[←hw']
  exact(((Upd.refl (fun b=>b=g) wr).setCell ⟨g,s*8+6,none⟩ (.int .i64 (n:Int)) (fun _=>rfl)).trans hm (fun _ _ h=>absurd h aj)).setCell _ _ (fun _=>rfl)
 have hO2:=own_set (aJ (own_set hO (s*8+6) (.int .i64 (n:Int)) (by omega)) hm (fun _ _=>aj)) (s*8+7) (.int .i64 (k:Int)) (by omega)
 rw[hw'] at hO2 ⊢
 have hgt:tb≠g:=fun e=>own_ne hO h.tab.tab (by decide) (by rw[e];rfl)
 have hlen:(fK li s n k).length=li.length:=by simp[fK]
 obtain⟨cur,hcg,-⟩:=aK hO (g:=g) rfl
 have hbg:base≤g:=ji hO rfl
 refine⟨⟨?_,h.tab.lo,h.tab.s,⟨qs,by rw[hlen];exact hq,?_,fun i y r hy hr=>?_⟩,fun b hb=>Nat.lt_of_lt_of_le (h.tab.d b hb) hU.size⟩,?_,h.new⟩
 ·rw[hlen]
  exact h.tab.tab.upd hU hgt
 ·rw[hlen,flatN_link li qs s n k hq hs]
  exact hO2
 ·rw[setUp_at] at hy
  have keep:∀ {z:PN},jk wr base S z r→jk w' base S z r:=fun hz=>hz.upd hU (fun b hb e=>by have:=h.tab.s b hb;omega) (fun b hb e=>own_ne hz.2.1 hcg (by decide) (by rw[←e];exact hb))
  split at hy
  ·cases hz:li[i]? with
   | none=>rw[hz] at hy;cases hy
   | some z =>
    rw[hz] at hy
    injection hy with hy
    subst hy
    exact⟨keep ((hOn i z r hz hr).1.put rfl rfl rfl rfl),(hOn i z r hz hr).2⟩
  ·exact⟨keep (hOn i y r hy hr).1,(hOn i y r hy hr).2⟩
 ·refine h.upd.trans hU (fun b hlt e=>?_)
  subst e
  rcases h.new with h3 | h3
  ·exact .inr (by rw[←h3];rfl)
  ·have:=h3 b rfl;omega
theorem jT {w:World} {base tb tc:Nat} {S D:Nat→Prop} {l:List PN} {TA:Option Addr} {x:PN} {q:Q4} (hT:dZ w base tb S D l TA tc) (hN:jk w base S x q) (hND:∀b,(Value.slice q.2.1 x.subs.length q.2.2).ownBlock=some b→¬D b) (hs:∀s∈x.subs,s < l.length) (hl:l.length≤90000) (hsl:x.subs.length≤1000000) :
  Calls Try.prog 64 #[.pointer (some ⟨tb,0,none⟩),.agg #[.int .i64 x.kind,.int .i64 x.asr,.int .i64 x.ix,.slice q.1.1 x.rs.length q.1.2,.slice q.2.1 x.subs.length q.2.2,.bool x.lz,.int .i64 x.up,.int .i64 x.nth]] w (TAns base tb S D w TA (dA x l)):=by
 obtain⟨qs,hq,hO,hOn⟩:=hT.row
 have t0:=hT.tab.ak (i:=0) rfl
 have htb:=hT.size
 have hlo:=hT.lo
 have hU2:=(Upd.refl Nob w).alloc (.cells #[.int .i64 x.kind,.int .i64 x.asr,.int .i64 x.ix,.slice q.1.1 x.rs.length q.1.2,.slice q.2.1 x.subs.length q.2.2,.bool x.lz,.int .i64 (-1),.int .i64 x.nth] 119)
 have hX3:=Cells.new w 119 #[.int .i64 x.kind,.int .i64 x.asr,.int .i64 x.ix,.slice q.1.1 x.rs.length q.1.2,.slice q.2.1 x.subs.length q.2.2,.bool x.lz,.int .i64 (-1),.int .i64 x.nth]
 have hno:∀b,TA.map (·.block)=some b→b < w.heap.size:=fun b hb=>(hT.gQ b hb).2
 have HT:=ah hT
 have HN:=ah hN
 have HND:=ah hND
 have HO:=ah hO
 have HON:=ah hOn
 have HQ:=ah hq
 have HU2:=ah hU2
 have HX:=ah hX3
 have HS:=ah hs
 have HNO:=ah hno
 clear hT hN hND hO hOn hq hU2 hX3 hs hno
 go_enter Try.func64,Try.ntmps64
 go_upto_region 3 with fail
 generalize w.alloc (.cells #[.int .i64 x.kind,.int .i64 x.asr,.int .i64 x.ix,.slice q.1.1 x.rs.length q.1.2,.slice q.2.1 x.subs.length q.2.2,.bool x.lz,.int .i64 (-1),.int .i64 x.nth] 119)=w2 at *
 clear t0
 generalize hxb:w.heap.size=xb at *
 have HXB:=ah hxb
 clear hxb
 have hs2:=HU2.out.size
 rw[HXB.out] at hs2
 refine put_reg3 _ w2 tb xb l.length tc base TA _ _ _ _ _ _ _ _ (iN l qs) _ _ _ _ _ _ _ _ _ _ _ _ _ _ _ _ _ _ _ _ _ _ _ _ _ _ _ _ _ _ _ _ _ _ _ _ _ _ _ _ _ _ _ _ _ _ _ _ _ _ _ _ _ (HT.out.tab.upd HU2.out aj) HX.out (aJ HO.out HU2.out (fun _ _=>aj)) (by omega) (by omega) (fun e=>by have:=HNO.out _ (aN.1 e);omega) rfl rfl rfl rfl rfl rfl rfl rfl ?_
 intro _ _ _ _ _ _ _ _ _ _ wN gN cN hUB hat hltN TN XN oN
 have hA:=put_added (x:={ x with up:=-1 }) HT.out (HN.out.put rfl rfl rfl rfl) HND.out HU2.out hUB hat TN HQ.out HO.out HON.out oN
 have hgx:gN≠xb:=fun e=>by
  rcases hat with h | h
  ·have:=HNO.out _ (aN.1 h);omega
  ·have:=HX.out.lt;omega
 have hX3:Cells (wN.setCell ⟨tb,0,none⟩ (.slice (some ⟨gN,0,none⟩) (l.length+1) cN)) xb 119 #[.int .i64 x.kind,.int .i64 x.asr,.int .i64 x.ix,.slice q.1.1 x.rs.length q.1.2,.slice q.2.1 x.subs.length q.2.2,.bool x.lz,.int .i64 (-1),.int .i64 x.nth]:=XN.upd ((Upd.refl (fun b=>b=tb) wN).setCell ⟨tb,0,none⟩ _ (fun _=>rfl)) (fun e=>Cells.ne_ XN TN (by decide) e)
 generalize wN.setCell ⟨tb,0,none⟩ (.slice (some ⟨gN,0,none⟩) (l.length+1) cN)=w3 at *
 have HA:=ah hA
 have HX3:=ah hX3
 have HP:=ah (show dU (l++[{ x with up:=-1 }]) l.length 0 x.subs=(dA x l).1 from rfl)
 have HGX:=ah hgx
 clear hUB hat hltN TN XN oN hA hX3 hgx HX
 go_wp2_with fail
 go_loopg [6] x.subs.length (fun gk v6 wr=>∃(i:Nat) (li:List PN) (g c:Nat),i+gk=x.subs.length∧v6=.int .i64 (i:Int)∧li.length=l.length+1∧dU li l.length i (x.subs.drop i)=(dA x l).1∧TNx base tb S D w TA li wr (some ⟨g,0,none⟩) c∧Cells wr xb 119 #[.int .i64 x.kind,.int .i64 x.asr,.int .i64 x.ix,.slice q.1.1 x.rs.length q.1.2,.slice q.2.1 x.subs.length q.2.2,.bool x.lz,.int .i64 (-1),.int .i64 x.nth]∧g≠xb)
 case atStart=>exact⟨0,_,gN,cN,by omega,rfl,by simp,HP.out,HA.out,HX3.out,HGX.out⟩
 case round =>
  clear HA HX3 HP HGX
  obtain⟨i,li,g,c,hk2,rfl,hli,hset,hA,hX,hgx⟩:=hrel
  have HA:=ah hA
  have HX:=ah hX
  have HK:=ah hk2
  have HLI:=ah hli
  have HSET:=ah hset
  have HGX:=ah hgx
  have y4:=hX.ak (i:=0+4) (v:=.slice q.2.1 x.subs.length q.2.2) rfl
  have t0:=hA.tab.tab.ak (i:=0) rfl
  clear hA hX hk2 hli hset hgx
  by_cases hlt:i < x.subs.length
  ·obtain⟨ad,hSA,hadb,hadS,hcell⟩:=(Reads.eU (HA.out.own HT.out HN.out.2.1)).2 (by omega)
   have z0:=hcell i (.int .i64 ((x.subs[i]'hlt:Nat):Int)) (by simp[bn,hlt])
   have hsub:=HS.out _ (List.getElem_mem hlt)
   have hd:x.subs.drop i=(x.subs[i]'hlt)::x.subs.drop (i+1):=List.drop_eq_getElem_cons hlt
   have hA2:=HSET.out
   rw[hd] at hA2
   have HSET:=ah hA2
   have q1:(i:Int) < (x.subs.length:Int):=by omega
   generalize (x.subs[i]'hlt)=s at *
   have q2:(s:Int) < (li.length:Int):=by have:=HLI.out;omega
   have HSB:=ah (show s < li.length by have:=HLI.out;omega)
   rw[hSA] at y4
   have hadg:ad.block≠g:=fun e=>by
    have h1:=HA.out.own HT.out HN.out.2.1
    obtain⟨qs2,-,ho2,-⟩:=HA.out.tab.row
    obtain⟨cur,hcg,-⟩:=aK ho2 (g:=g) rfl
    exact own_ne h1 hcg (by decide) (by rw[hSA,←e];rfl)
   have hgt:tb≠g:=fun e=>by
    obtain⟨qs2,-,ho2,-⟩:=HA.out.tab.row
    exact own_ne ho2 HA.out.tab.tab (by decide) (by rw[e];rfl)
   have HSA:=ah hSA
   clear hcell hd hA2 hadS hSA
   obtain⟨qs2,hq2,ho2,-⟩:=HA.out.tab.row
   obtain⟨cur,hcg,htk⟩:=aK ho2 (g:=g) rfl
   have hsz:s*8+8≤cur.size:=by
    have h6:s*8+8≤(iN li qs2).length:=by rw[flatN_len _ _ hq2];omega
    rw[←htk] at h6
    simp at h6
    omega
   have HCG:=ah hcg
   clear hcg htk ho2 hq2
   go_wp2_with fail
   go_still_tail 12,(by kernel_rfl)
   change wpList _ _ _ _ _ wr.drew
   have hUd:=(Upd.refl Nob wr).drew
   have HA3:=ah (HA.out.trans (TNx.aM HA.out.tab hUd) HT.out.size)
   have HX3:=ah (HX.out.upd hUd aj)
   have HCG3:=ah (HCG.out.upd hUd aj)
   have HZ3:=ah ((hUd.cell (p:=ad.add i) (by rw[add_block];exact hadb) aj).trans z0)
   have hadb3:ad.block < wr.drew.heap.size:=hadb
   generalize wr.drew=w5 at *
   clear y4 t0 z0 HA HX HCG hUd hadb
   have f6:=HCG3.out.frozen (s*8+6)
   have x6:=HCG3.out.ak (i:=s*8+6) (Array.getElem?_eq_getElem (by omega))
   go_wp2_with fail
   clear f6 x6
   have hV:Upd (fun b=>b=g) w5 (w5.setCell ⟨g,s*8+6,none⟩ (.int .i64 (l.length:Int))):=(Upd.refl (fun b=>b=g) w5).setCell _ _ (fun _=>rfl)
   have HCG6:=ah (HCG3.out.aW (s*8+6) (.int .i64 (l.length:Int)))
   have HX6:=ah (HX3.out.upd hV (fun e=>HGX.out e.symm))
   have HT6:=ah (HA3.out.tab.tab.upd hV hgt)
   have HZ6:=ah ((hV.cell (p:=ad.add i) (by rw[add_block];exact hadb3) (by rw[add_block];exact hadg)).trans HZ3.out)
   have hadb6:=Nat.lt_of_lt_of_le hadb3 hV.size
   generalize hw6:w5.setCell ⟨g,s*8+6,none⟩ (.int .i64 (l.length:Int))=w6 at *
   have HW6:=ah hw6
   clear hw6 HX3 HCG3 HZ3 hadb3 hV
   have y4:=HX6.out.ak (i:=0+4) (v:=.slice q.2.1 x.subs.length q.2.2) rfl
   rw[HSA.out] at y4
   have t0:=HT6.out.ak (i:=0) rfl
   have z0:=HZ6.out
   go_still_tail 12,(by kernel_rfl)
   change wpList _ _ _ _ _ w6.drew
   have hUd:=(Upd.refl Nob w6).drew
   have HUD:=ah hUd
   have HX7:=ah (HX6.out.upd hUd aj)
   have HCG7:=ah (HCG6.out.upd hUd aj)
   generalize w6.drew=w7 at *
   clear y4 t0 z0 HX6 HCG6 HZ6 HT6 hUd
   have f7:=HCG7.out.frozen (s*8+7)
   have x7:=HCG7.out.ak (i:=s*8+7) (Array.getElem?_eq_getElem (by rw[Array.size_setIfInBounds];omega))
   go_wp2_with fail
   clear f7 x7
   have hL:=put_linked (n:=l.length) (k:=i) HA3.out HT.out HSB.out (by rw[HW6.out];exact HUD.out)
   have hX8:=HX7.out.upd ((Upd.refl (fun b=>b=g) w7).setCell ⟨g,s*8+7,none⟩ (.int .i64 (i:Int)) (fun _=>rfl)) (fun e=>HGX.out e.symm)
   go_roundg (x.subs.length - (i+1))
   case measure=>have:=HK.out;omega
   case rel=>exact⟨i+1,fK li s l.length i,g,c,by have:=HK.out;omega,by go_num,by simp[fK];exact HLI.out,HSET.out,hL,hX8,HGX.out⟩
  ·have q1:¬(i:Int) < (x.subs.length:Int):=by omega
   have hA2:=HSET.out
   rw[List.drop_eq_nil_of_le (by omega)] at hA2
   have hA3:li=(dA x l).1:=hA2
   clear hA2 hlt
   go_wp2_with fail
   go_ret
   exact⟨rfl,some ⟨g,0,none⟩,c,by rw[←hA3];exact HA.out⟩
end Go.Proofs.Ytnkefclbchpafaa

/-
  The row that a tree is unfolded into stands for the unfolded tree.
-/
namespace Go.Proofs.Ytnkefclbchpafaa
set_option linter.unusedVariables false
structure GoodAt (l0:List PN) (r:List PN × Nat) (u:UT):Prop where
 pre:Pre l0 r.1
 root:∃x,r.1[r.2]?=some x∧x.up < 0
 low:l0.length≤r.2
 rep:Rep r.1 u r.2
def fJ (f:Uf) (u:UT):Prop:=∀l,GoodAt l (f l) u
def GoodL (F:List PN→List PN × List Nat) (us:List UT):Prop:=∀l,Pre l (F l).1∧eD (F l).1 us l.length (F l).2
theorem eD.lt {l:List PN} {us:List UT} {a:Nat} {ss:List Nat} (hr:eD l us a ss):∀s∈ss,s < l.length:=by
 induction hr with
 | nil=>intro s hs;simp at hs
 | cons a u us s ss x _ _ h3 _ _ ih =>
  intro q hq
  rcases List.mem_cons.1 hq with rfl | hq
  ·exact(List.getElem?_eq_some_iff.1 h3).1
  ·exact ih q hq
theorem eD.snoc {l:List PN} {us:List UT} {a:Nat} {ss:List Nat} (hr:eD l us a ss) {u:UT} {s:Nat} {x:PN} (ha:a≤s) (hlt:∀q∈ss,q < s) (h1:Rep l u s) (h2:l[s]?=some x) (h3:x.up < 0):eD l (us++[u]) a (ss++[s]):=by
 induction hr with
 | nil a=>exact .cons a u [] s [] x ha h1 h2 h3 (.nil _)
 | cons a v us q ss y g1 g2 g3 g4 _ ih=>exact .cons a v (us++[u]) q (ss++[s]) y g1 g2 g3 g4 (ih (by have:=hlt q (by simp);omega) (fun p hp=>hlt p (by simp[hp])))
theorem eD.len {l:List PN} {us:List UT} {a:Nat} {ss:List Nat} (hr:eD l us a ss):ss.length=us.length:=by
 induction hr with
 | nil=>rfl
 | cons a u us s ss x _ _ _ _ _ ih=>simp[ih]
theorem GoodAt.one {l0:List PN} {r:List PN × Nat} {u:UT} (h:GoodAt l0 r u):eD r.1 [u] l0.length [r.2]:=by
 obtain⟨x,hx,hu⟩:=h.root
 exact .cons _ u [] _ [] x h.low h.rep hx hu (.nil _)
theorem GoodAt.lower {l0 l1:List PN} {r:List PN × Nat} {u:UT} (h:GoodAt l1 r u) (hp:Pre l0 l1):GoodAt l0 r u:=⟨hp.trans h.pre,h.root,Nat.le_trans hp.len h.low,h.rep⟩
theorem put_loop {l0 l:List PN} {u:UT} {s:Nat} {lz:Bool} (hp:Pre l0 l) (hr:eD l [u] l0.length [s]) (k:Int) (v:UT)
  (hv:∀(l:List PN) (n:Nat) (x:PN),l[n]?=some x→x.kind=k→x.lz=lz→dW l [u] n 0 x.subs→Rep l v n):GoodAt l0 (dA (aX k [s] lz) l) v:=by
 obtain⟨h1,h2,⟨y,h3,h4,h5,-,-,-,h9,h10⟩,h11⟩:=put_good (x:=aX k [s] lz) hp hr
 exact⟨h1,⟨y,h3,h4⟩,h2,hv _ _ y h3 h5 h10 (by rw[h9];exact h11)⟩
theorem put_quest {l0 l:List PN} {u:UT} {s:Nat} {lz:Bool} (hp:Pre l0 l) (hr:eD l [u] l0.length [s]):GoodAt l0 (dA (aX 103 [s] lz) l) (.quest u lz) :=
 put_loop hp hr 103 _ (fun l n x h1 h2 h3 h4=>by rw[←h3];exact .quest n x u h1 h2 h4)
theorem put_star {l0 l:List PN} {u:UT} {s:Nat} {lz:Bool} (hp:Pre l0 l) (hr:eD l [u] l0.length [s]):GoodAt l0 (dA (aX 101 [s] lz) l) (.star u lz) :=
 put_loop hp hr 101 _ (fun l n x h1 h2 h3 h4=>by rw[←h3];exact .star n x u h1 h2 h4)
theorem put_plus {l0 l:List PN} {u:UT} {s:Nat} {lz:Bool} (hp:Pre l0 l) (hr:eD l [u] l0.length [s]):GoodAt l0 (dA (aX 102 [s] lz) l) (.plus u lz) :=
 put_loop hp hr 102 _ (fun l n x h1 h2 h3 h4=>by rw[←h3];exact .plus n x u h1 h2 h4)
theorem row_good {l0 l:List PN} {us:List UT} {ss:List Nat} (hp:Pre l0 l) (hr:eD l us l0.length ss):GoodAt l0 (iK ss l) (rowU us):=by
 cases hr with
 | nil =>
  obtain⟨h1,h2,⟨y,h3,h4,h5,-⟩,h11⟩:=put_good (x:=aX 1 [] false) hp (.nil _)
  exact⟨h1,⟨y,h3,h4⟩,h2,.eps _ y h3 h5⟩
 | cons _ u us s ss x g1 g2 g3 g4 g5 =>
  cases g5 with
  | nil=>exact⟨hp,⟨x,g3,g4⟩,g1,g2⟩
  | cons _ v us q ss z k1 k2 k3 k4 k5 =>
   obtain⟨h1,h2,⟨y,h3,h4,h5,-,-,-,h9,-⟩,h11⟩:=put_good (x:=aX 4 (s::q::ss) false) hp (.cons _ u (v::us) s (q::ss) x g1 g2 g3 g4 (.cons _ v us q ss z k1 k2 k3 k4 k5))
   exact⟨h1,⟨y,h3,h4⟩,h2,.cat _ y _ h3 h5 (by rw[h9];simp[aX]) (by rw[h9];exact h11)⟩
theorem jl {f:Uf} {u:UT} (lz:Bool) (hf:fJ f u):∀k,0 < k→fJ (fZ f lz k) (optU u lz k)
 | 0,h=>by omega
 | 1,_=>fun l=>put_quest (hf l).pre (hf l).one
 | k+2,_=>fun l=>by
  have h1:=hf l
  have h2:=jl lz hf (k+1) (by omega) (f l).1
  have hr:eD (fZ f lz (k+1) (f l).1).1 [u,optU u lz (k+1)] l.length [(f l).2,(fZ f lz (k+1) (f l).1).2]:=by
   obtain⟨x,hx,hu⟩:=h1.root
   have hlt:=(List.getElem?_eq_some_iff.1 hx).1
   exact .cons _ u _ _ _ x h1.low (Rep.ext h2.pre.ext u _ h1.rep) (h2.pre _ _ hx) hu (h2.one.low (by omega))
  have h3:=row_good (l0:=l) (h1.pre.trans h2.pre) hr
  exact put_quest h3.pre h3.one
theorem times_good {f:Uf} {u:UT} (hf:fJ f u):∀n,GoodL (aF f n) (List.replicate n u)
 | 0=>fun l=>⟨.refl l,.nil _⟩
 | n+1=>fun l=>by
  have h1:=hf l
  obtain⟨h2,h3⟩:=times_good hf n (f l).1
  obtain⟨x,hx,hu⟩:=h1.root
  have hlt:=(List.getElem?_eq_some_iff.1 hx).1
  refine⟨h1.pre.trans h2,?_⟩
  rw[List.replicate_succ]
  exact .cons _ u _ _ _ x h1.low (Rep.ext h2.ext u _ h1.rep) (h2 _ _ hx) hu (h3.low (by omega))
theorem snoc_good {F:List PN→List PN × List Nat} {us:List UT} {l:List PN} {r:List PN × Nat} {u:UT} (hF:GoodL F us) (hr:GoodAt (F l).1 r u):eD r.1 (us++[u]) l.length ((F l).2++[r.2]):=by
 obtain⟨h1,h2⟩:=hF l
 obtain⟨x,hx,hu⟩:=hr.root
 exact(h2.pre hr.pre).snoc (Nat.le_trans h1.len hr.low) (fun q hq=>Nat.lt_of_lt_of_le (h2.lt q hq) hr.low) hr.rep hx hu
theorem rep_good {f:Uf} {u:UT} (mn mx:Int) (lz:Bool) (hf:fJ f u):fJ (iJ f mn mx lz) (repU u mn mx lz):=fun l=>by
 unfold iJ repU
 by_cases h0:mx < 0∧mn=0
 ·rw[if_pos h0,if_pos h0]
  exact put_star (hf l).pre (hf l).one
 rw[if_neg h0,if_neg h0]
 have hF:=times_good hf (if mx < 0 then mn - 1 else mn).toNat
 generalize (if mx < 0 then mn - 1 else mn).toNat=n at *
 simp only
 by_cases h1:mx < 0
 ·rw[if_pos h1,if_pos h1]
  have h2:=hf (aF f n l).1
  have h3:=put_plus (lz:=lz) h2.pre h2.one
  exact row_good ((hF l).1.trans h3.pre) (snoc_good hF h3)
 rw[if_neg h1,if_neg h1]
 by_cases h2:mn < mx
 ·rw[if_pos h2,if_pos h2]
  have h3:=jl lz hf (mx - mn).toNat (by omega) (aF f n l).1
  exact row_good ((hF l).1.trans h3.pre) (snoc_good hF h3)
 ·rw[if_neg h2,if_neg h2,List.append_nil]
  exact row_good (hF l).1 (hF l).2
def OkU (t:Tree):Prop :=
 (1≤t.kind∧t.kind≤7∧(t.kind=4→t.subs≠[])∧(t.kind=6∨t.kind=7→t.subs.length=1))∧∀i (h:i < t.subs.length),OkU t.subs[i]
termination_by SizeOf.sizeOf t
decreasing_by exact Tree.sub_lt (List.getElem_mem h)
theorem OkU.top {t:Tree} (h:OkU t):(1≤t.kind∧t.kind≤7∧(t.kind=4→t.subs≠[])∧(t.kind=6∨t.kind=7→t.subs.length=1))∧∀x∈t.subs,OkU x:=by
 rw[OkU] at h
 refine⟨h.1,fun x hx=>?_⟩
 obtain⟨i,hi,rfl⟩:=List.mem_iff_getElem.1 hx
 exact h.2 i hi
theorem OkU.of {t:Tree} (h:1≤t.kind∧t.kind≤7∧(t.kind=4→t.subs≠[])∧(t.kind=6∨t.kind=7→t.subs.length=1)) (hs:∀x∈t.subs,OkU x):OkU t:=by
 rw[OkU]
 exact⟨h,fun i hi=>hs _ (List.getElem_mem hi)⟩
theorem unf_put {k:Int} {am ix:Int} {rs:List (Int × Int)} {F:List PN→List PN × List Nat} {us:List UT} (hF:GoodL F us) (v:UT)
  (hv:∀(l:List PN) (n:Nat) (x:PN),l[n]?=some x→x.kind=k→x.asr=am→x.ix=ix→x.rs=rs→dW l us n 0 x.subs→(us≠[]→x.subs≠[])→Rep l v n):fJ (fun l=>dA ⟨k,am,ix,rs,(F l).2,false,0,0⟩ (F l).1) v:=fun l=>by
 obtain⟨h1,h2⟩:=hF l
 obtain⟨g1,g2,⟨y,g3,g4,g5,g6,g7,g8,g9,g10⟩,g11⟩:=put_good (x:=⟨k,am,ix,rs,(F l).2,false,0,0⟩) h1 h2
 exact⟨g1,⟨y,g3,g4⟩,g2,hv _ _ y g3 g5 g6 g7 g8 (by rw[g9];exact g11) (fun hne he=>hne (by
  rw[g9] at he
  have:=h2.len
  simp only at he
  rw[he] at this
  exact List.eq_nil_of_length_eq_zero this.symm))⟩
mutual
theorem jR:∀(t:Tree),OkU t→fJ (bJ t) (jS t)
 | .mk k rs am subs mn mx lz ix nm,hok=>by
  obtain⟨⟨hk1,hk7,hk4,hk6⟩,hs⟩:=hok.top
  simp only[Tree.kind,Tree.subs] at hk1 hk7 hk4 hk6 hs
  have hL:=unfL_good subs hs
  rw[bJ,jS]
  by_cases h6:k=6
  ·subst h6
   simp only[if_true]
   have hl:=hk6 (.inl rfl)
   cases subs with
   | nil=>simp at hl
   | cons t r =>
    rw[unfTH,unfUH]
    exact rep_good mn mx lz (jR t (hs t (by simp)))
  simp only[if_neg h6]
  by_cases h2:k=2
  ·rw[if_pos h2]
   exact unf_put hL _ (fun l n x a1 a2 a3 a4 a5 a6 a7=>by rw[←a5];exact .cls n x a1 (by omega))
  rw[if_neg h2]
  by_cases h3:k=3
  ·rw[if_pos h3]
   exact unf_put hL _ (fun l n x a1 a2 a3 a4 a5 a6 a7=>by rw[←a3];exact .asr n x a1 (by omega))
  rw[if_neg h3]
  by_cases h4:k=4
  ·rw[if_pos h4]
   refine unf_put hL _ (fun l n x a1 a2 a3 a4 a5 a6 a7=>.cat n x _ a1 (by omega) (a7 ?_) a6)
   intro he
   have h0:=hk4 h4
   rw[unfUL_map] at he
   exact h0 (List.map_eq_nil_iff.1 he)
  rw[if_neg h4]
  by_cases h5:k=5
  ·rw[if_pos h5]
   exact unf_put hL _ (fun l n x a1 a2 a3 a4 a5 a6 a7=>.alt n x _ a1 (by omega) a6)
  rw[if_neg h5]
  by_cases h7:k=7
  ·rw[if_pos h7]
   have hl:=hk6 (.inr h7)
   cases subs with
   | nil=>simp at hl
   | cons t r =>
    cases r with
    | cons _ _=>simp at hl
    | nil =>
     have e:gP [t]=[unfUH [t]]:=by rw[gP,unfUH,gP]
     rw[e] at hL
     exact unf_put hL _ (fun l n x a1 a2 a3 a4 a5 a6 a7=>by rw[←a4];exact .grp n x _ a1 (by omega) a6)
  rw[if_neg h7]
  exact unf_put hL _ (fun l n x a1 a2 a3 a4 a5 a6 a7=>.eps n x a1 (by omega))
theorem unfL_good:∀(ts:List Tree),(∀x∈ts,OkU x)→GoodL (bU ts) (gP ts)
 | [],_=>fun l=>by
  rw[bU,gP]
  exact⟨.refl l,.nil _⟩
 | t::r,hs=>fun l=>by
  rw[bU,gP]
  have h1:=jR t (hs t (by simp)) l
  obtain⟨h2,h3⟩:=unfL_good r (fun x hx=>hs x (by simp[hx])) (bJ t l).1
  obtain⟨x,hx,hu⟩:=h1.root
  have hlt:=(List.getElem?_eq_some_iff.1 hx).1
  exact⟨h1.pre.trans h2,.cons _ _ _ _ _ x h1.low (Rep.ext h2.ext _ _ h1.rep) (h2 _ _ hx) hu (h3.low (by omega))⟩
end
end Go.Proofs.Ytnkefclbchpafaa

/-
  The walk of heronref06's Tree.row.
-/
namespace Go.Proofs.Ytnkefclbchpafaa
set_option maxHeartbeats 16000000
open Go.RowKit
set_option linter.unusedVariables false
theorem lit_own {w:World} (cs:Array Value) (t:TypeId) (h:cs.size≤maxLen):(w.alloc (.cells cs t)).ownsRow w.heap.size t 1 (.slice (some ⟨w.heap.size,0,none⟩) cs.size cs.size) cs.size cs.toList :=
 ⟨by simp,.inr ⟨w.heap.size,cs.size,cs,rfl,Nat.le_refl _,heap_alloc_new w _,Nat.le_refl _,h,by simp,by simp[List.take_of_length_le]⟩⟩
theorem no_ranges {w:World} {S:Nat→Prop}:bO w S none 0 []:=⟨Reads.nil_,fun x hx=>(by cases hx),by omega⟩
theorem in64_zero:In64 0:=⟨by omega,by omega⟩
theorem jI {w:World} {base:Nat} {S:Nat→Prop} {k:Int} {ss:List Nat} {lz:Bool} {A:Option Addr} {c:Nat} (h:w.ownsRow base 3 1 (.slice A ss.length c) ss.length (bn (ss.map fun(s:Nat)=>(s:Int)))):jk w base S (aX k ss lz) ((none,0),(A,c)):=⟨no_ranges,h,in64_zero,in64_zero⟩
theorem rowT_two {ss:List Nat} (h:2≤ss.length) (l:List PN):iK ss l=dA (aX 4 ss false) l:=by
 match ss,h with
 | a::b::r,_=>rfl
theorem row_any {w:World} {base tb tc:Nat} {S D:Nat→Prop} {l:List PN} {TA:Option Addr} {ss:List Nat} {A:Option Addr} {c:Nat} (hT:dZ w base tb S D l TA tc) (hO:w.ownsRow base 3 1 (.slice A ss.length c) ss.length (bn (ss.map fun(s:Nat)=>(s:Int)))) (hD:∀b,(Value.slice A ss.length c).ownBlock=some b→¬D b) (hs:∀s∈ss,s < l.length) (hl:l.length≤90000) (hsl:ss.length≤1000000) :
  Calls Try.prog 87 #[.pointer (some ⟨tb,0,none⟩),.slice A ss.length c] w (TAns base tb S D w TA (iK ss l)):=by
 by_cases h0:ss.length=0
 ·obtain rfl:=List.eq_nil_of_length_eq_zero h0
  have HP:=ah (jT hT (jI (k:=1) (ss:=[]) (lz:=false) (S:=S) (A:=none) (c:=0) (World.ownsRow_nil _ _ _ _)) (fun b hb=>by cases hb) (by simp[aX]) hl (by simp[aX]))
  clear hT hO hD hs
  go_enter Try.func87,Try.ntmps87
  go_wp2_with (go_at_call 64;refine HP.out.mono ?_;rintro e w1 ⟨rfl,hX⟩)
  go_ret
  exact⟨rfl,hX⟩
 by_cases h1:ss.length=1
 ·obtain⟨a,rfl⟩:=List.length_eq_one_iff.1 h1
  obtain⟨ad,hSA,hadb,hadS,hcell⟩:=(Reads.eU hO).2 (by simp)
  have z0:=hcell 0 (.int .i64 (a:Int)) rfl
  have HT:=ah hT
  subst hSA
  rw[show ad.add 0=ad by simp[Addr.add]] at z0
  clear hT hO hD hs hcell
  go_enter Try.func87,Try.ntmps87
  go_wp2_with fail
  go_ret
  exact⟨rfl,TA,tc,TNx.aM HT.out (Upd.refl _ _)⟩
 have hr:=rowT_two (ss:=ss) (by omega) l
 have HP:=ah (jT hT (jI (k:=4) (ss:=ss) (lz:=false) (S:=S) hO) hD hs hl hsl)
 have HR:=ah hr
 have g0:¬(ss.length:Int)=0:=by omega
 have g1:¬(ss.length:Int)=1:=by omega
 clear hT hO hD hs hr h0 h1
 go_enter Try.func87,Try.ntmps87
 go_wp2_with (go_at_call 64;refine HP.out.mono ?_;rintro e w1 ⟨rfl,hX⟩)
 go_ret
 rw[HR.out]
 exact⟨rfl,hX⟩
end Go.Proofs.Ytnkefclbchpafaa
