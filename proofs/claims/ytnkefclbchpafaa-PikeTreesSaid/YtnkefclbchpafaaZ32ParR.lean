/-
  Much, Heavy, ParR, put together.
-/
import Derived.Test.YtnkefclbchpafaaZ25ParP
import Derived.Test.YtnkefclbchpafaaZ16Loop7

/-
  The walk of heronlaw06.Much: some answer.
-/
namespace Go.Proofs.Ytnkefclbchpafaa
set_option maxRecDepth 100000
set_option maxHeartbeats 16000000
open Go.RowKit
set_option linter.unusedVariables false
def AnyAns (w:World) (e:Ending) (w':World):Prop:=∃b,e=.returned (.bool b)∧Upd Nob w w'
theorem much_any (t:Tree) (w:World) (S:Nat→Prop) (cs:Array Value) (h1:aB w S cs t) (TA:Option Addr) (n tc:Nat) :
  Calls Try.prog 20 #[.agg cs,.slice TA n tc] w (AnyAns w):=by
 obtain⟨RA,rc,SA,sc,rfl,-⟩:=h1.top
 have HN:=ah h1
 clear h1
 unfold au at HN ⊢
 generalize hP:AnyAns w=P
 have HP:=ah (show ∀b w',Upd Nob w w'→P (.returned (.bool b)) w' from fun b w' a=>by rw[←hP];exact⟨b,rfl,a⟩)
 clear hP
 have C0:=Cells.new w 47 #[.int .i64 t.kind,.slice RA t.rs.length rc,.int .i64 t.am,.slice SA t.subs.length sc,.int .i64 t.mn,.int .i64 t.mx,.bool t.lz,.int .i64 t.ix,.string t.nm]
 have hU2:=(Upd.refl Nob w).alloc (.cells #[.int .i64 t.kind,.slice RA t.rs.length rc,.int .i64 t.am,.slice SA t.subs.length sc,.int .i64 t.mn,.int .i64 t.mx,.bool t.lz,.int .i64 t.ix,.string t.nm] 47)
 by_cases hn:64 < n
 ·have gn:(64:Int) < (n:Int):=by omega
  clear hn
  go_enter Try.func20,Try.ntmps20
  go_wp2_with fail
  try go_ret
  exact HP.out _ _ hU2
 have gn:¬(64:Int) < (n:Int):=by omega
 have HNN:=ah hn
 clear hn
 go_enter Try.func20,Try.ntmps20
 go_upto_region 1 with fail
 generalize w.alloc (.cells #[.int .i64 t.kind,.slice RA t.rs.length rc,.int .i64 t.am,.slice SA t.subs.length sc,.int .i64 t.mn,.int .i64 t.mx,.bool t.lz,.int .i64 t.ix,.string t.nm] 47)=w2 at *
 have HU:=ah hU2
 have HC:=ah C0
 obtain⟨e0,e1,e2,e3,e4,e5,e6,e7,e8⟩:=aI C0
 clear C0 hU2
 go_upto_region 4 with(go_at_call 22;refine(iI t _ _ _ (HN.out.bA HU.out (fun _ _=>aj))).mono ?_;rintro e w3 ⟨r,rfl,hr,-,hU3⟩;have HR:=ah hr;have HU3:=ah (HU.out.trans hU3 (fun _ _ h=>h));have HC3:=ah (HC.out.upd hU3 aj);clear hr hU3 e0 e1 e2 e3 e4 e5 e6 e7 e8)
 obtain⟨e0,e1,e2,e3,e4,e5,e6,e7,e8⟩:=aI HC3.out
 rcases r with _ | _
 ·go_wp2_with fail
  try go_ret
  exact HP.out _ _ HU3.out
 have HS:=ah (HR.out rfl)
 have hgb:=grt_bnd _ t 1 (Nat.le_refl _) HS.out.1
 go_upto_region 7 with(go_at_call 23;refine(size_go _ t _ _ _ (Nat.le_refl _) (okV_of _ t 1 (Nat.le_refl _) HS.out.1) (HN.out.bA HU3.out (fun _ _=>aj))).mono ?_;rintro e w4 ⟨rfl,hz,hU4⟩;have HZ:=ah hz;have HU4:=ah (HU3.out.trans hU4 (fun _ _ h=>h));have HC4:=ah (HC3.out.upd hU4 aj);clear hz hU4 e0 e1 e2 e3 e4 e5 e6 e7 e8)
 obtain⟨e0,e1,e2,e3,e4,e5,e6,e7,e8⟩:=aI HC4.out
 obtain⟨z,hz⟩:∃z,szT t=z:=⟨_,rfl⟩
 obtain⟨g,hg⟩:∃g,dF t=g:=⟨_,rfl⟩
 have HZ2:=HZ.out
 simp only[hz] at HZ2 ⊢
 simp only[hg] at hgb
 obtain⟨z0,z1⟩:=HZ2
 obtain⟨g0,g1⟩:=hgb
 by_cases hb:z≤2000
 ·have b1:0≤z*((n:Int)+1)∧z*((n:Int)+1)≤2000*65:=by
   have h:=HNN.out
   have i1:0≤z*((n:Int)+1):=Int.mul_nonneg z0 (by omega)
   have i2:=Int.mul_le_mul hb (show(n:Int)+1≤65 by omega) (by omega) (by omega)
   exact⟨i1,i2⟩
  obtain⟨y,hy⟩:∃y,z*((n:Int)+1)=y:=⟨_,rfl⟩
  simp only[hy] at b1
  have b2:0≤y*(2*g+2)∧y*(2*g+2)≤(2000*65)*1002:=by
   have i1:0≤y*(2*g+2):=Int.mul_nonneg b1.1 (by omega)
   have i2:=Int.mul_le_mul b1.2 (show 2*g+2≤1002 by omega) (by omega) (by omega)
   exact⟨i1,i2⟩
  have w1:wrap64 (z*((n:Int)+1))=y:=by rw[hy];unfold wrap64;omega
  have w2:wrap64 (y*(2*g+2))=y*(2*g+2):=by unfold wrap64;omega
  clear hy
  go_wp2_with (go_at_call 36;refine(greatest_go _ t _ _ _ (Nat.le_refl _) (HN.out.bA HU4.out (fun _ _=>aj))).mono ?_;rintro e w5 ⟨rfl,-,hU5⟩;simp only[hg];have HU5:=ah (HU4.out.trans hU5 (fun _ _ h=>h));clear hU5)
  try go_ret
  exact HP.out _ _ HU5.out
 ·go_wp2_with fail
  try go_ret
  exact HP.out _ _ HU4.out
end Go.Proofs.Ytnkefclbchpafaa

/-
  The walks of heronlaw04.Weight and Heavy: some answer.
-/
namespace Go.Proofs.Ytnkefclbchpafaa
set_option maxRecDepth 100000
set_option maxHeartbeats 16000000
open Go.RowKit
set_option linter.unusedVariables false
def WghAns (w:World) (e:Ending) (w':World):Prop:=∃v:Int,e=.returned (.int .i64 v)∧1≤v∧v≤1099511627776∧Upd Nob w w'
theorem weight_go (n:Nat):∀(t:Tree) (w:World) (S:Nat→Prop) (cs:Array Value),SizeOf.sizeOf t≤n→aB w S cs t →
  Calls Try.prog 37 #[.agg cs] w (WghAns w):=by
 induction n with
 | zero=>exact fun t _ _ _ h=>by obtain⟨k,r,a,l,m,x,z,i,nn⟩:=t;simp at h
 | succ n ih =>
 intro t w S cs hn h1
 obtain⟨RA,rc,SA,sc,rfl,hr1,ho,hs1⟩:=h1.top
 have C0:=Cells.new w 47 (au t RA rc SA sc)
 have hU:=(Upd.refl Nob w).alloc (.cells (au t RA rc SA sc) 47)
 have IH:=ah ih
 have HN:=ah hn
 have H1:=ah (h1.bA hU (fun _ _=>aj))
 have hnl:=ho.n
 have hrn:=hr1.n
 obtain⟨hm1,hm2⟩:=ho.m
 obtain⟨hx1,hx2⟩:=ho.x
 clear ih hn h1 hr1 hs1 ho
 unfold au at C0 hU H1
 unfold au
 generalize hP:WghAns w=P
 have HP:=ah (show ∀v w',1≤v→v≤1099511627776→Upd Nob w w'→P (.returned (.int .i64 v)) w' from fun v w' a b c=>by rw[←hP];exact⟨v,rfl,a,b,c⟩)
 clear hP
 go_enter Try.func37,Try.ntmps37
 go_upto_region 1 with fail
 generalize w.alloc (.cells #[.int .i64 t.kind,.slice RA t.rs.length rc,.int .i64 t.am,.slice SA t.subs.length sc,.int .i64 t.mn,.int .i64 t.mx,.bool t.lz,.int .i64 t.ix,.string t.nm] 47)=w2 at *
 have HU:=ah hU
 have HC:=ah C0
 obtain⟨e0,e1,e2,e3,e4,e5,e6,e7,e8⟩:=aI C0
 clear C0 hU
 have HM:=ah (And.intro hm1 hm2)
 have HX:=ah (And.intro hx1 hx2)
 clear hm1 hm2 hx1 hx2
 go_upto_region 2 with fail
 obtain⟨n0,hn0⟩:∃n0:Int,(1:Int)+(t.rs.length:Int)=n0:=⟨_,rfl⟩
 have a0:1≤n0:=by omega
 have a1:n0≤140737488355329:=by omega
 simp only[hn0]
 have HA:=ah (And.intro a0 a1)
 clear hn0 hrn a0 a1
 go_wp2_with fail
 go_loopg [3,4,5] t.subs.length (fun gk v3 v4 v5 wr=>∃(k:Nat) (v:Int),k+gk=t.subs.length∧v4=.int .i64 (k:Int)∧v3=.int .i64 v∧1≤v∧v≤140737488355329∧Upd Nob w2 wr)
 case atStart=>exact⟨0,n0,by omega,rfl,rfl,HA.out.1,HA.out.2,Upd.refl _ _⟩
 case round =>
  obtain⟨k,v,hk,rfl,rfl,v0,v1,hUr⟩:=hrel
  have b3:wr.cell? ⟨w.heap.size,0+3,none⟩=some (.slice SA t.subs.length sc):=(HC.out.upd hUr aj).ak rfl
  have HUr:=ah hUr
  have HK:=ah hk
  by_cases hlt:k < t.subs.length
  ·have g2:(k:Int) < (t.subs.length:Int):=by omega
   obtain⟨ad,g,o,x,PA,pc,QA,qc,rfl,hadd,hSg,hgl,hx,hX,hlx,hcs⟩:=aB.sub H1.out.open_.2.2 hlt
   obtain⟨p0,p1,p2,p3,p4,p5,p6,p7,p8⟩:=bH (fun j v hv=>(hUr.cell (p:=⟨g,o+j,none⟩) hgl aj).trans (hcs j v hv))
   have hxn:SizeOf.sizeOf x≤n:=by have:=HN.out;omega
   have HXX:=ah (hX.bA hUr (fun _ _=>aj))
   clear hcs hX hlx hx hUr hk
   go_upto_region 6 with(go_at_call 37;refine(IH.out x wr _ _ hxn HXX.out).mono ?_;rintro e w5 ⟨s,rfl,s0,s1,hU5⟩;have HU5:=ah (HUr.out.trans hU5 (fun _ _ h=>h));clear hU5)
   go_wp2_with fail
   all_goals
    go_roundg (t.subs.length - (k+1))
    case measure=>have:=HK.out;omega
    case rel=>exact⟨k+1,_,by have:=HK.out;omega,by go_num,rfl,by omega,by omega,HU5.out⟩
  ·have g2:¬(k:Int) < (t.subs.length:Int):=by omega
   have c0:wr.cell? ⟨w.heap.size,0+0,none⟩=some (.int .i64 t.kind):=(HC.out.upd hUr aj).ak rfl
   have c4:wr.cell? ⟨w.heap.size,0+4,none⟩=some (.int .i64 t.mn):=(HC.out.upd hUr aj).ak rfl
   have c5:wr.cell? ⟨w.heap.size,0+5,none⟩=some (.int .i64 t.mx):=(HC.out.upd hUr aj).ak rfl
   have HV:=ah (And.intro v0 v1)
   clear hUr hk
   have fin:∀tm:Int,1≤tm→tm≤(1099511627776:Int) / v→1≤tm*v∧tm*v≤1099511627776:=fun tm h1 h2=>by
    have h3:=Int.mul_le_mul_of_nonneg_right h2 (show 0≤v by omega)
    have h4:=Int.ediv_mul_le 1099511627776 (show v≠0 by omega)
    have h5:=Int.mul_le_mul_of_nonneg_right h1 (show 0≤v by omega)
    omega
   have FIN:=ah fin
   have hv0:(v==0)=false:=by simp;omega
   clear fin
   have HU2:=ah (HU.out.trans HUr.out (fun _ _ h=>h))
   go_upto_if 30 with fail
   go_cut [6,31,32,33,34,35] (fun v6 _ _ _ _ _ wc=>(∃tm:Int,v6=.int .i64 tm∧1≤tm∧tm≤9223372036854775807)∧wr=wc)
   case first =>
    by_cases hk6:t.kind=6
    ·have k6:(t.kind==6)=true:=by simp[hk6]
     clear hk6
     obtain⟨m1,m2⟩:=HM.out
     obtain⟨x1,x2⟩:=HX.out
     go_wp2_with fail
     all_goals
      go_meet
      exact⟨⟨_,rfl,by omega,by omega⟩,rfl⟩
    ·have k6:(t.kind==6)=false:=by simpa using hk6
     clear hk6
     go_wp2_with fail
     go_meet
     exact⟨⟨1,rfl,by omega,by omega⟩,rfl⟩
   case rest =>
   obtain⟨⟨tm,rfl,t0,t1⟩,rfl⟩:=hcut
   have HT:=ah (And.intro t0 t1)
   clear c0 c4 c5
   go_wp2_with fail
   ·try go_ret
    exact HP.out _ _ (by omega) (by omega) HU2.out
   ·rename_i hq
    obtain⟨f1,f2⟩:=FIN.out tm t0 hq
    rw[show wrap64 (tm*v)=tm*v by unfold wrap64;omega]
    exact HP.out _ _ f1 f2 HU2.out
theorem heavy_any (t:Tree) (w:World) (S:Nat→Prop) (cs:Array Value) (h1:aB w S cs t) :
  Calls Try.prog 21 #[.agg cs] w fun e w'=>∃b,e=.returned (.bool b)∧Upd Nob w w':=by
 obtain⟨RA,rc,SA,sc,rfl,-⟩:=h1.top
 have HN:=ah h1
 clear h1
 unfold au at HN ⊢
 have C0:=Cells.new w 47 #[.int .i64 t.kind,.slice RA t.rs.length rc,.int .i64 t.am,.slice SA t.subs.length sc,.int .i64 t.mn,.int .i64 t.mx,.bool t.lz,.int .i64 t.ix,.string t.nm]
 have hU2:=(Upd.refl Nob w).alloc (.cells #[.int .i64 t.kind,.slice RA t.rs.length rc,.int .i64 t.am,.slice SA t.subs.length sc,.int .i64 t.mn,.int .i64 t.mx,.bool t.lz,.int .i64 t.ix,.string t.nm] 47)
 go_enter Try.func21,Try.ntmps21
 go_upto_region 1 with fail
 generalize w.alloc (.cells #[.int .i64 t.kind,.slice RA t.rs.length rc,.int .i64 t.am,.slice SA t.subs.length sc,.int .i64 t.mn,.int .i64 t.mx,.bool t.lz,.int .i64 t.ix,.string t.nm] 47)=w2 at *
 obtain⟨e0,e1,e2,e3,e4,e5,e6,e7,e8⟩:=aI C0
 clear C0
 go_wp2_with fail
 refine(weight_go _ t w2 S _ (Nat.le_refl _) (HN.out.bA hU2 (fun _ _=>aj))).mono ?_
 rintro e w3 ⟨v,rfl,v0,v1,hU3⟩
 have HU3:=ah (hU2.trans hU3 (fun _ _ h=>h))
 clear hU3 hU2 e0 e1 e2 e3 e4 e5 e6 e7 e8
 go_wp2_with fail
 try go_ret
 exact⟨_,rfl,HU3.out⟩
end Go.Proofs.Ytnkefclbchpafaa

/-
  Drawn regions of gY.Parses: a row of marks is appended. Printed by tools/mkParR.py.
-/
namespace Go.Proofs.Ytnkefclbchpafaa
set_option maxRecDepth 100000
set_option maxHeartbeats 16000000
open Go.RowKit
set_option linter.unusedVariables false
theorem pinfo_bool:(Try.prog.info? 4).map (fun i=>(i.zero,i.size,i.bytes))=some (some (.bool false),1,1):=by kernel_rfl
theorem pinfo_bools:(Try.prog.info? 77).map (fun i=>(i.zero,i.size,i.bytes))=some (some (.slice none 0 0),1,24):=by kernel_rfl
def noMark:Nat→Bool:=fun _=>false
theorem made_marks (n:Nat):madeCells (Value.bool false).cells (n*1)=dQ noMark n:=by
 apply Array.toList_inj.1
 rw[show(Value.bool false).cells=#[Value.bool false] from rfl,toList_madeCells_one,Nat.mul_one]
 apply List.ext_getElem?
 intro j
 by_cases h:j < n
 ·simp[dQ,noMark,h]
 ·simp[dQ,noMark,h]
theorem step_make_marks {ops:Array Oper} {o:Oper} {a:Act} {K:Act→World→Prop} {Q:Exit→Act→World→Prop} {E:Prop} (w:World)
  (hg:o.guard=none) (l:Operand) (hop:o.op=Op.makeSlice 77 l l) (C:Int) (n:Nat) (hl:a.eval l=.int .i64 C) (hC:C=(n:Int)) (hn:n≤100000)
  (hK:K (a.put o.dst (.slice (some ⟨w.heap.size,0,none⟩) n n)) (w.alloc (.cells (dQ noMark n) 4))) :
  if Region.wanted o (yielded ops a.tmps)=true then Oper.wp Try.prog o a w K Q else E:=by
 rw[if_pos (by simp[Region.wanted,hg])]
 obtain⟨i0,hi0,hz0,hz1,hz2⟩:=info_parts pinfo_bool
 subst hC
 have hrun:=run_make (P:=Try.prog) w 77 4 i0 (.bool false) Try.underlying77 hi0 hz0 .i64 .i64 (n:Int) (n:Int) (by omega) (by omega) (by rw[hz2];omega) (by omega)
 rw[Int.toNat_natCast,hz1,made_marks] at hrun
 unfold Oper.wp
 simp[execOp,hop,hl,hrun,Result.andThen]
 exact hK
theorem par_reg17 (Q:Exit→Act→World→Prop) (wr:World) (wb n tc k bc base:Nat) (TA BA:Option Addr) (vs:List Value) (p0 p1 p2 p4 p5 p6:Value) (x0 x2 x3 x4 x5 x6 x7 x8 x9 x10 x11 x13 x14 x15 x16 x17 x18 x19 x20 x21 x22 x23 x24 x25 x26 x27 x28 x29 x30 x31 x32 x33 x34 x35 x36 x37 x38 x39 x40 x41 x42 x43 x44 x45 x46 x47 x48 x49 x50 x51 x52 x53 x54 x55 x56 x57 x58 x59 x60 x61 x62 x63 x64 x65 x66 x67 x68 x69 x70 x71 x72 x73 x74 x75 x76 x77 x78 x79 x80 x81 x82 x83 x84 x85 x86 x87 x88 x89 x90 x91 x92 x93 x94 x95 x96 x97 x98 x99 x100 x101 x102 x103 x104 x105 x106:Value)
  (hC:Cells wr wb 100 #[p0,p1,p2,.slice BA k bc,p4,p5,p6]) (hO:wr.ownsRow base 77 1 (.slice BA k bc) k vs) (hb:base≤wr.heap.size) (hk:k≤100000) (hn:n≤64)
  (hnext:∀(v58 v59 v60 v61 v62 v63 v64 v65 v66 v67 v68 v69 v70:Value) (w4:World) (gB gN cN:Nat),Upd (fun(b:Nat)=>(Value.slice BA k bc).ownBlock=some b) wr w4→gB=wr.heap.size→Cells w4 gB 4 (dQ noMark (n+1))→((Value.slice BA k bc).ownBlock=some gN∨gN=wr.heap.size+2)→w4.ownsRow base 77 1 (.slice (some ⟨gN,0,none⟩) (k+1) cN) (k+1) (vs++[.slice (some ⟨gB,0,none⟩) (n+1) (n+1)])→Cells w4 wb 100 #[p0,p1,p2,.slice BA k bc,p4,p5,p6]→Q .normal ⟨#[x0,.slice TA n tc,x2,x3,x4,x5,x6,x7,x8,x9,x10,x11,.pointer (some ⟨wb,0,none⟩),x13,x14,x15,x16,x17,x18,x19,x20,x21,x22,x23,x24,x25,x26,x27,x28,x29,x30,x31,x32,x33,x34,x35,x36,x37,x38,x39,x40,x41,x42,x43,x44,x45,x46,x47,x48,x49,x50,x51,x52,x53,x54,x55,x56,x57,v58,v59,v60,v61,v62,v63,v64,v65,v66,v67,v68,v69,v70,x71,x72,x73,x74,x75,x76,x77,x78,x79,x80,x81,x82,x83,x84,x85,x86,x87,x88,x89,x90,x91,x92,x93,x94,x95,x96,x97,x98,x99,x100,x101,x102,x103,x104,x105,x106],[]⟩ (w4.setCell ⟨wb,0+3,none⟩ (.slice (some ⟨gN,0,none⟩) (k+1) cN))) :
  (Code.region 17 #[{ dst:=some 58,op:=Op.move (Operand.tmp 12),type:=97,pos:= "ref.go:264",after:=#[],guard:=none },{ dst:=some 59,op:=Op.move (Operand.tmp 12),type:=97,pos:= "ref.go:264",after:=#[],guard:=none },{ dst:=some 60,op:=Op.nilCheck (Operand.tmp 59),type:=0,pos:= "ref.go:264",after:=#[{ on:=1,ground:=.data }],guard:=none },{ dst:=some 61,op:=Op.fieldAddr 100 (Operand.tmp 60) 3,type:=0,pos:= "ref.go:264",after:=#[{ on:=2,ground:=.data }],guard:=none },{ dst:=some 62,op:=Op.load 98 (Operand.tmp 61),type:=98,pos:= "ref.go:264",after:=#[{ on:=3,ground:=.data }],guard:=none },{ dst:=some 63,op:=Op.move (Operand.tmp 1),type:=28,pos:= "ref.go:264",after:=#[],guard:=none },{ dst:=some 64,op:=Op.call { callee:=Callee.builtin Builtin.len,args:=#[Operand.tmp 63],argTypes:=#[28] },type:=3,pos:= "ref.go:264",after:=#[{ on:=5,ground:=.data }],guard:=none },{ dst:=some 65,op:=Op.binOp BinOp.add 3 (Operand.tmp 64) (Operand.const (Value.int IntKind.i64 1)) 3,type:=3,pos:= "ref.go:264",after:=#[{ on:=6,ground:=.data }],guard:=none },{ dst:=some 66,op:=Op.makeSlice 77 (Operand.tmp 65) (Operand.tmp 65),type:=77,pos:= "ref.go:264",after:=#[{ on:=7,ground:=.data },{ on:=7,ground:=.data }],guard:=none },{ dst:=some 67,op:=Op.buildSlice 98 1 #[(0,Operand.tmp 66)],type:=98,pos:= "ref.go:264",after:=#[{ on:=8,ground:=.data }],guard:=none },{ dst:=some 68,op:=Op.call { callee:=Callee.builtin Builtin.append,args:=#[Operand.tmp 62,Operand.tmp 67],argTypes:=#[98, 98] },type:=98,pos:= "ref.go:264",after:=#[{ on:=4,ground:=.data },{ on:=9,ground:=.data }],guard:=none },{ dst:=some 69,op:=Op.nilCheck (Operand.tmp 58),type:=0,pos:= "ref.go:264",after:=#[{ on:=0,ground:=.data },{ on:=0,ground:=.phase },{ on:=1,ground:=.phase },{ on:=2,ground:=.phase },{ on:=3,ground:=.phase },{ on:=4,ground:=.phase },{ on:=5,ground:=.phase },{ on:=6,ground:=.phase },{ on:=7,ground:=.phase },{ on:=8,ground:=.phase },{ on:=9,ground:=.phase },{ on:=10,ground:=.phase }],guard:=none },{ dst:=some 70,op:=Op.fieldAddr 100 (Operand.tmp 69) 3,type:=0,pos:= "ref.go:264",after:=#[{ on:=11,ground:=.data },{ on:=0,ground:=.phase },{ on:=1,ground:=.phase },{ on:=2,ground:=.phase },{ on:=3,ground:=.phase },{ on:=4,ground:=.phase },{ on:=5,ground:=.phase },{ on:=6,ground:=.phase },{ on:=7,ground:=.phase },{ on:=8,ground:=.phase },{ on:=9,ground:=.phase },{ on:=10,ground:=.phase }],guard:=none },{ dst:=none,op:=Op.store 98 (Operand.tmp 70) (Operand.tmp 68),type:=0,pos:= "ref.go:264",after:=#[{ on:=12,ground:=.data },{ on:=10,ground:=.data },{ on:=10,ground:=.chain },{ on:=0,ground:=.phase },{ on:=1,ground:=.phase },{ on:=2,ground:=.phase },{ on:=3,ground:=.phase },{ on:=4,ground:=.phase },{ on:=5,ground:=.phase },{ on:=6,ground:=.phase },{ on:=7,ground:=.phase },{ on:=8,ground:=.phase },{ on:=9,ground:=.phase },{ on:=10,ground:=.phase }],guard:=none }] true).wp Try.prog Q ⟨#[x0,.slice TA n tc,x2,x3,x4,x5,x6,x7,x8,x9,x10,x11,.pointer (some ⟨wb,0,none⟩),x13,x14,x15,x16,x17,x18,x19,x20,x21,x22,x23,x24,x25,x26,x27,x28,x29,x30,x31,x32,x33,x34,x35,x36,x37,x38,x39,x40,x41,x42,x43,x44,x45,x46,x47,x48,x49,x50,x51,x52,x53,x54,x55,x56,x57,x58,x59,x60,x61,x62,x63,x64,x65,x66,x67,x68,x69,x70,x71,x72,x73,x74,x75,x76,x77,x78,x79,x80,x81,x82,x83,x84,x85,x86,x87,x88,x89,x90,x91,x92,x93,x94,x95,x96,x97,x98,x99,x100,x101,x102,x103,x104,x105,x106],[]⟩ wr:=by
 obtain⟨i0,hi0,hz0,hz1,hz2⟩:=info_parts pinfo_bools
 have HY:=ah hnext
 have hS:(fun(w':World)=>w'.cell? ⟨wb,0+3,none⟩=some (.slice BA k bc)) wr:=hC.ak rfl
 have n64:(n:Int)≤64:=by omega
 have hUd:=(Upd.refl Nob wr).drew
 have HCA:=ah (hUd.alloc (.cells (dQ noMark (n+1)) 4))
 have HCB:=ah (HCA.out.alloc (.cells #[.slice (some ⟨wr.drew.heap.size,0,none⟩) (n+1) (n+1)] 77))
 have HGB:=ah ((Cells.new wr.drew 4 (dQ noMark (n+1))).alloc (.cells #[.slice (some ⟨wr.drew.heap.size,0,none⟩) (n+1) (n+1)] 77))
 have hwb:=heap_alloc_new (wr.drew.alloc (.cells (dQ noMark (n+1)) 4)) (.cells #[.slice (some ⟨wr.drew.heap.size,0,none⟩) (n+1) (n+1)] 77)
 rw[World.size_alloc] at hwb
 have HWB:=ah hwb
 have HC:=ah hC
 have HO:=ah hO
 have vw:IntKind.i64.wrap ((n:Int)+1)=(n:Int)+1:=by rw[IntKind.wrap_i64];omega
 clear hnext hC hO hUd hwb
 refine Code.wp_mono (QuietQ.imp (G:=fun _ _ _=>False) (fun _ _ _ h=>h.elim)) ?_
 refine aP.begin 13 (fun(w':World)=>w'.cell? ⟨wb,0+3,none⟩=some (.slice BA k bc)) (by kernel_rfl) hS (fun hSS=>?_)
 refine aP.take (i:=0) (oi:={ dst:=some 58,op:=Op.move (Operand.tmp 12),type:=97,pos:= "ref.go:264",after:=#[],guard:=none }) (v:=?v0nr171) ?a0nr171 ?b0nr171 ?c0nr171 ?d0nr171 ?e0nr171 (fun _ _ _ h=>h) (Or.inl ⟨?f0nr171,?y0nr171⟩) (by assumption) ?r0nr171
 case a0nr171=>rfl
 case b0nr171=>kernel_rfl
 case c0nr171=>kernel_rfl
 case d0nr171=>kernel_rfl
 case e0nr171=>kernel_rfl
 case f0nr171=>rfl
 case y0nr171=>(intro w' hSw;(try dsimp only at hSw);go_simp;try with_reducible rfl)
 try simp only[Act.put,List.setIfInBounds_toArray,List.set_cons_zero,List.set_cons_succ]
 refine aP.take (i:=1) (oi:={ dst:=some 59,op:=Op.move (Operand.tmp 12),type:=97,pos:= "ref.go:264",after:=#[],guard:=none }) (v:=?v1nr172) ?a1nr172 ?b1nr172 ?c1nr172 ?d1nr172 ?e1nr172 (fun _ _ _ h=>h) (Or.inl ⟨?f1nr172,?y1nr172⟩) (by assumption) ?r1nr172
 case a1nr172=>rfl
 case b1nr172=>kernel_rfl
 case c1nr172=>kernel_rfl
 case d1nr172=>kernel_rfl
 case e1nr172=>kernel_rfl
 case f1nr172=>rfl
 case y1nr172=>(intro w' hSw;(try dsimp only at hSw);go_simp;try with_reducible rfl)
 try simp only[Act.put,List.setIfInBounds_toArray,List.set_cons_zero,List.set_cons_succ]
 refine aP.take (i:=2) (oi:={ dst:=some 60,op:=Op.nilCheck (Operand.tmp 59),type:=0,pos:= "ref.go:264",after:=#[{ on:=1,ground:=.data }],guard:=none }) (v:=?v2nr173) ?a2nr173 ?b2nr173 ?c2nr173 ?d2nr173 ?e2nr173 (fun _ _ _ h=>h) (Or.inl ⟨?f2nr173,?y2nr173⟩) (by assumption) ?r2nr173
 case a2nr173=>rfl
 case b2nr173=>kernel_rfl
 case c2nr173=>kernel_rfl
 case d2nr173=>kernel_rfl
 case e2nr173=>kernel_rfl
 case f2nr173=>rfl
 case y2nr173=>(intro w' hSw;(try dsimp only at hSw);go_simp;try with_reducible rfl)
 try simp only[Act.put,List.setIfInBounds_toArray,List.set_cons_zero,List.set_cons_succ]
 refine aP.take (i:=3) (oi:={ dst:=some 61,op:=Op.fieldAddr 100 (Operand.tmp 60) 3,type:=0,pos:= "ref.go:264",after:=#[{ on:=2,ground:=.data }],guard:=none }) (v:=?v3nr174) ?a3nr174 ?b3nr174 ?c3nr174 ?d3nr174 ?e3nr174 (fun _ _ _ h=>h) (Or.inl ⟨?f3nr174,?y3nr174⟩) (by assumption) ?r3nr174
 case a3nr174=>rfl
 case b3nr174=>kernel_rfl
 case c3nr174=>kernel_rfl
 case d3nr174=>kernel_rfl
 case e3nr174=>kernel_rfl
 case f3nr174=>rfl
 case y3nr174=>(intro w' hSw;(try dsimp only at hSw);go_simp;try with_reducible rfl)
 try simp only[Act.put,List.setIfInBounds_toArray,List.set_cons_zero,List.set_cons_succ]
 refine aP.take (i:=4) (oi:={ dst:=some 62,op:=Op.load 98 (Operand.tmp 61),type:=98,pos:= "ref.go:264",after:=#[{ on:=3,ground:=.data }],guard:=none }) (v:=?v4nr175) ?a4nr175 ?b4nr175 ?c4nr175 ?d4nr175 ?e4nr175 (fun _ _ _ h=>h) (Or.inl ⟨?f4nr175,?y4nr175⟩) (by assumption) ?r4nr175
 case a4nr175=>rfl
 case b4nr175=>kernel_rfl
 case c4nr175=>kernel_rfl
 case d4nr175=>kernel_rfl
 case e4nr175=>kernel_rfl
 case f4nr175=>rfl
 case y4nr175=>(intro w' hSw;(try dsimp only at hSw);go_simp;try with_reducible rfl)
 try simp only[Act.put,List.setIfInBounds_toArray,List.set_cons_zero,List.set_cons_succ]
 refine aP.take (i:=5) (oi:={ dst:=some 63,op:=Op.move (Operand.tmp 1),type:=28,pos:= "ref.go:264",after:=#[],guard:=none }) (v:=?v5nr176) ?a5nr176 ?b5nr176 ?c5nr176 ?d5nr176 ?e5nr176 (fun _ _ _ h=>h) (Or.inl ⟨?f5nr176,?y5nr176⟩) (by assumption) ?r5nr176
 case a5nr176=>rfl
 case b5nr176=>kernel_rfl
 case c5nr176=>kernel_rfl
 case d5nr176=>kernel_rfl
 case e5nr176=>kernel_rfl
 case f5nr176=>rfl
 case y5nr176=>(intro w' hSw;(try dsimp only at hSw);go_simp;try with_reducible rfl)
 try simp only[Act.put,List.setIfInBounds_toArray,List.set_cons_zero,List.set_cons_succ]
 refine aP.take (i:=6) (oi:={ dst:=some 64,op:=Op.call { callee:=Callee.builtin Builtin.len,args:=#[Operand.tmp 63],argTypes:=#[28] },type:=3,pos:= "ref.go:264",after:=#[{ on:=5,ground:=.data }],guard:=none }) (v:=?v6nr177) ?a6nr177 ?b6nr177 ?c6nr177 ?d6nr177 ?e6nr177 (fun _ _ _ h=>h) (Or.inl ⟨?f6nr177,?y6nr177⟩) (by assumption) ?r6nr177
 case a6nr177=>rfl
 case b6nr177=>kernel_rfl
 case c6nr177=>kernel_rfl
 case d6nr177=>kernel_rfl
 case e6nr177=>kernel_rfl
 case f6nr177=>rfl
 case y6nr177=>(intro w' hSw;(try dsimp only at hSw);go_simp;try with_reducible rfl)
 try simp only[Act.put,List.setIfInBounds_toArray,List.set_cons_zero,List.set_cons_succ]
 refine aP.take (i:=7) (oi:={ dst:=some 65,op:=Op.binOp BinOp.add 3 (Operand.tmp 64) (Operand.const (Value.int IntKind.i64 1)) 3,type:=3,pos:= "ref.go:264",after:=#[{ on:=6,ground:=.data }],guard:=none }) (v:=?v7nr178) ?a7nr178 ?b7nr178 ?c7nr178 ?d7nr178 ?e7nr178 (fun _ _ _ h=>h) (Or.inl ⟨?f7nr178,?y7nr178⟩) (by assumption) ?r7nr178
 case a7nr178=>rfl
 case b7nr178=>kernel_rfl
 case c7nr178=>kernel_rfl
 case d7nr178=>kernel_rfl
 case e7nr178=>kernel_rfl
 case f7nr178=>rfl
 case y7nr178=>(intro w' hSw;(try dsimp only at hSw);go_simp;try with_reducible rfl)
 try simp only[Act.put,List.setIfInBounds_toArray,List.set_cons_zero,List.set_cons_succ]
 clear hSS hS
 refine aP.one (i:=8) (o:={ dst:=some 66,op:=Op.makeSlice 77 (Operand.tmp 65) (Operand.tmp 65),type:=77,pos:= "ref.go:264",after:=#[{ on:=7,ground:=.data },{ on:=7,ground:=.data }],guard:=none }) ?pr179 ?qr179 ?_
 case pr179=>kernel_rfl
 case qr179=>rfl
 intro K' hK
 refine step_make_marks wr.drew rfl (.tmp 65) rfl _ (n+1) (by rfl) (by omega) (by omega) ?_
 refine hK.out _ _ (.inr ((HC.out.upd HCA.out aj).ak rfl)) ?_;clear hK K'
 try simp only[Act.put,List.setIfInBounds_toArray,List.set_cons_zero,List.set_cons_succ]
 refine aP.one (i:=9) (o:={ dst:=some 67,op:=Op.buildSlice 98 1 #[(0,Operand.tmp 66)],type:=98,pos:= "ref.go:264",after:=#[{ on:=8,ground:=.data }],guard:=none }) ?pr1710 ?qr1710 ?_
 case pr1710=>kernel_rfl
 case qr1710=>rfl
 intro K' hK
 go_simp
 refine hK.out _ _ (.inr ((HC.out.upd HCB.out aj).ak rfl)) ?_;clear hK K'
 try simp only[Act.put,List.setIfInBounds_toArray,List.set_cons_zero,List.set_cons_succ]
 refine aP.one (i:=10) (o:={ dst:=some 68,op:=Op.call { callee:=Callee.builtin Builtin.append,args:=#[Operand.tmp 62,Operand.tmp 67],argTypes:=#[98, 98] },type:=98,pos:= "ref.go:264",after:=#[{ on:=4,ground:=.data },{ on:=9,ground:=.data }],guard:=none }) ?pr1711 ?qr1711 ?_
 case pr1711=>kernel_rfl
 case qr1711=>rfl
 intro K' hK
 have P9:=aJ HO.out HCB.out (fun _ _=>aj)
 refine step_append_lies _ rfl (.tmp 62) (.tmp 67) 98 rfl base 77 i0 _ 1 24 Try.underlying98 hi0 hz0 hz1 hz2 rfl (by decide) (.slice BA k bc) k vs (by rfl) P9 ⟨wr.drew.heap.size+1,0,none⟩ 1 1 [.slice (some ⟨wr.drew.heap.size,0,none⟩) (n+1) (n+1)] (by rfl) (by rfl) (World.news_of_block (cs:=#[.slice (some ⟨wr.drew.heap.size,0,none⟩) (n+1) (n+1)]) (t:=77) (fr:=(0,0)) HWB.out) (by intro u hu;simp at hu;subst hu;rfl) (by decide) (by unfold maxLen;omega) (by omega) (Nat.le_trans hb HCB.out.size) (wr.heap.size+2) (by show((wr.alloc (.cells (dQ noMark (n+1)) 4)).alloc (.cells #[.slice (some ⟨wr.heap.size,0,none⟩) (n+1) (n+1)] 77)).heap.size=wr.heap.size+2;rw[World.size_alloc,World.size_alloc]) ?_
 intro gN cN w4 oN gr hat hltN
 have UB:=(HCB.out.mono (fun _ _ h=>absurd h aj)).grown (F:=fun b=>(Value.slice BA k bc).ownBlock=some b) gr (fun b hb _=>hb)
 have C4:=HC.out.upd UB (fun e=>own_ne HO.out HC.out (by decide) e)
 have G4:Cells w4 wr.heap.size 4 (dQ noMark (n+1)):=HGB.out.grown gr (fun e=>own_ne P9 HGB.out (by decide) e)
 refine hK.out _ _ (.inr (C4.ak rfl)) ?_;clear hK K'
 try simp only[Act.put,List.setIfInBounds_toArray,List.set_cons_zero,List.set_cons_succ]
 refine aP.one (i:=11) (o:={ dst:=some 69,op:=Op.nilCheck (Operand.tmp 58),type:=0,pos:= "ref.go:264",after:=#[{ on:=0,ground:=.data },{ on:=0,ground:=.phase },{ on:=1,ground:=.phase },{ on:=2,ground:=.phase },{ on:=3,ground:=.phase },{ on:=4,ground:=.phase },{ on:=5,ground:=.phase },{ on:=6,ground:=.phase },{ on:=7,ground:=.phase },{ on:=8,ground:=.phase },{ on:=9,ground:=.phase },{ on:=10,ground:=.phase }],guard:=none }) ?pr1712 ?qr1712 ?_
 case pr1712=>kernel_rfl
 case qr1712=>rfl
 intro K' hK
 go_simp
 refine hK.out _ _ (.inr (C4.ak rfl)) ?_;clear hK K'
 try simp only[Act.put,List.setIfInBounds_toArray,List.set_cons_zero,List.set_cons_succ]
 refine aP.one (i:=12) (o:={ dst:=some 70,op:=Op.fieldAddr 100 (Operand.tmp 69) 3,type:=0,pos:= "ref.go:264",after:=#[{ on:=11,ground:=.data },{ on:=0,ground:=.phase },{ on:=1,ground:=.phase },{ on:=2,ground:=.phase },{ on:=3,ground:=.phase },{ on:=4,ground:=.phase },{ on:=5,ground:=.phase },{ on:=6,ground:=.phase },{ on:=7,ground:=.phase },{ on:=8,ground:=.phase },{ on:=9,ground:=.phase },{ on:=10,ground:=.phase }],guard:=none }) ?pr1713 ?qr1713 ?_
 case pr1713=>kernel_rfl
 case qr1713=>rfl
 intro K' hK
 go_simp
 refine hK.out _ _ (.inr (C4.ak rfl)) ?_;clear hK K'
 try simp only[Act.put,List.setIfInBounds_toArray,List.set_cons_zero,List.set_cons_succ]
 have s0:w4.cell? ⟨wb,0+3,none⟩=some (.slice BA k bc):=C4.ak rfl
 have z0:w4.frozen? ⟨wb,0+3,none⟩=false:=C4.frozen _
 refine aP.one (i:=13) (o:={ dst:=none,op:=Op.store 98 (Operand.tmp 70) (Operand.tmp 68),type:=0,pos:= "ref.go:264",after:=#[{ on:=12,ground:=.data },{ on:=10,ground:=.data },{ on:=10,ground:=.chain },{ on:=0,ground:=.phase },{ on:=1,ground:=.phase },{ on:=2,ground:=.phase },{ on:=3,ground:=.phase },{ on:=4,ground:=.phase },{ on:=5,ground:=.phase },{ on:=6,ground:=.phase },{ on:=7,ground:=.phase },{ on:=8,ground:=.phase },{ on:=9,ground:=.phase },{ on:=10,ground:=.phase }],guard:=none }) ?pr1714 ?qr1714 ?_
 case pr1714=>kernel_rfl
 case qr1714=>rfl
 intro K' hK
 go_simp
 refine hK.out _ _ (.inl rfl) ?_;clear hK K'
 refine aP.done ?_ ?_ _
 ·kernel_rfl
 exact HY.out _ _ _ _ _ _ _ _ _ _ _ _ _ w4 _ gN cN UB rfl G4 hat oN C4
theorem par_reg18 (Q:Exit→Act→World→Prop) (wr:World) (wb n tc k bc base:Nat) (TA BA:Option Addr) (vs:List Value) (p0 p1 p2 p3 p5 p6:Value) (x0 x2 x3 x4 x5 x6 x7 x8 x9 x10 x11 x13 x14 x15 x16 x17 x18 x19 x20 x21 x22 x23 x24 x25 x26 x27 x28 x29 x30 x31 x32 x33 x34 x35 x36 x37 x38 x39 x40 x41 x42 x43 x44 x45 x46 x47 x48 x49 x50 x51 x52 x53 x54 x55 x56 x57 x58 x59 x60 x61 x62 x63 x64 x65 x66 x67 x68 x69 x70 x71 x72 x73 x74 x75 x76 x77 x78 x79 x80 x81 x82 x83 x84 x85 x86 x87 x88 x89 x90 x91 x92 x93 x94 x95 x96 x97 x98 x99 x100 x101 x102 x103 x104 x105 x106:Value)
  (hC:Cells wr wb 100 #[p0,p1,p2,p3,.slice BA k bc,p5,p6]) (hO:wr.ownsRow base 77 1 (.slice BA k bc) k vs) (hb:base≤wr.heap.size) (hk:k≤100000) (hn:n≤64)
  (hnext:∀(v71 v72 v73 v74 v75 v76 v77 v78 v79 v80 v81 v82 v83:Value) (w4:World) (gB gN cN:Nat),Upd (fun(b:Nat)=>(Value.slice BA k bc).ownBlock=some b) wr w4→gB=wr.heap.size→Cells w4 gB 4 (dQ noMark (n+1))→((Value.slice BA k bc).ownBlock=some gN∨gN=wr.heap.size+2)→w4.ownsRow base 77 1 (.slice (some ⟨gN,0,none⟩) (k+1) cN) (k+1) (vs++[.slice (some ⟨gB,0,none⟩) (n+1) (n+1)])→Cells w4 wb 100 #[p0,p1,p2,p3,.slice BA k bc,p5,p6]→Q .normal ⟨#[x0,.slice TA n tc,x2,x3,x4,x5,x6,x7,x8,x9,x10,x11,.pointer (some ⟨wb,0,none⟩),x13,x14,x15,x16,x17,x18,x19,x20,x21,x22,x23,x24,x25,x26,x27,x28,x29,x30,x31,x32,x33,x34,x35,x36,x37,x38,x39,x40,x41,x42,x43,x44,x45,x46,x47,x48,x49,x50,x51,x52,x53,x54,x55,x56,x57,x58,x59,x60,x61,x62,x63,x64,x65,x66,x67,x68,x69,x70,v71,v72,v73,v74,v75,v76,v77,v78,v79,v80,v81,v82,v83,x84,x85,x86,x87,x88,x89,x90,x91,x92,x93,x94,x95,x96,x97,x98,x99,x100,x101,x102,x103,x104,x105,x106],[]⟩ (w4.setCell ⟨wb,0+4,none⟩ (.slice (some ⟨gN,0,none⟩) (k+1) cN))) :
  (Code.region 18 #[{ dst:=some 71,op:=Op.move (Operand.tmp 12),type:=97,pos:= "ref.go:265",after:=#[],guard:=none },{ dst:=some 72,op:=Op.move (Operand.tmp 12),type:=97,pos:= "ref.go:265",after:=#[],guard:=none },{ dst:=some 73,op:=Op.nilCheck (Operand.tmp 72),type:=0,pos:= "ref.go:265",after:=#[{ on:=1,ground:=.data }],guard:=none },{ dst:=some 74,op:=Op.fieldAddr 100 (Operand.tmp 73) 4,type:=0,pos:= "ref.go:265",after:=#[{ on:=2,ground:=.data }],guard:=none },{ dst:=some 75,op:=Op.load 98 (Operand.tmp 74),type:=98,pos:= "ref.go:265",after:=#[{ on:=3,ground:=.data }],guard:=none },{ dst:=some 76,op:=Op.move (Operand.tmp 1),type:=28,pos:= "ref.go:265",after:=#[],guard:=none },{ dst:=some 77,op:=Op.call { callee:=Callee.builtin Builtin.len,args:=#[Operand.tmp 76],argTypes:=#[28] },type:=3,pos:= "ref.go:265",after:=#[{ on:=5,ground:=.data }],guard:=none },{ dst:=some 78,op:=Op.binOp BinOp.add 3 (Operand.tmp 77) (Operand.const (Value.int IntKind.i64 1)) 3,type:=3,pos:= "ref.go:265",after:=#[{ on:=6,ground:=.data }],guard:=none },{ dst:=some 79,op:=Op.makeSlice 77 (Operand.tmp 78) (Operand.tmp 78),type:=77,pos:= "ref.go:265",after:=#[{ on:=7,ground:=.data },{ on:=7,ground:=.data }],guard:=none },{ dst:=some 80,op:=Op.buildSlice 98 1 #[(0,Operand.tmp 79)],type:=98,pos:= "ref.go:265",after:=#[{ on:=8,ground:=.data }],guard:=none },{ dst:=some 81,op:=Op.call { callee:=Callee.builtin Builtin.append,args:=#[Operand.tmp 75,Operand.tmp 80],argTypes:=#[98, 98] },type:=98,pos:= "ref.go:265",after:=#[{ on:=4,ground:=.data },{ on:=9,ground:=.data }],guard:=none },{ dst:=some 82,op:=Op.nilCheck (Operand.tmp 71),type:=0,pos:= "ref.go:265",after:=#[{ on:=0,ground:=.data },{ on:=0,ground:=.phase },{ on:=1,ground:=.phase },{ on:=2,ground:=.phase },{ on:=3,ground:=.phase },{ on:=4,ground:=.phase },{ on:=5,ground:=.phase },{ on:=6,ground:=.phase },{ on:=7,ground:=.phase },{ on:=8,ground:=.phase },{ on:=9,ground:=.phase },{ on:=10,ground:=.phase }],guard:=none },{ dst:=some 83,op:=Op.fieldAddr 100 (Operand.tmp 82) 4,type:=0,pos:= "ref.go:265",after:=#[{ on:=11,ground:=.data },{ on:=0,ground:=.phase },{ on:=1,ground:=.phase },{ on:=2,ground:=.phase },{ on:=3,ground:=.phase },{ on:=4,ground:=.phase },{ on:=5,ground:=.phase },{ on:=6,ground:=.phase },{ on:=7,ground:=.phase },{ on:=8,ground:=.phase },{ on:=9,ground:=.phase },{ on:=10,ground:=.phase }],guard:=none },{ dst:=none,op:=Op.store 98 (Operand.tmp 83) (Operand.tmp 81),type:=0,pos:= "ref.go:265",after:=#[{ on:=12,ground:=.data },{ on:=10,ground:=.data },{ on:=10,ground:=.chain },{ on:=0,ground:=.phase },{ on:=1,ground:=.phase },{ on:=2,ground:=.phase },{ on:=3,ground:=.phase },{ on:=4,ground:=.phase },{ on:=5,ground:=.phase },{ on:=6,ground:=.phase },{ on:=7,ground:=.phase },{ on:=8,ground:=.phase },{ on:=9,ground:=.phase },{ on:=10,ground:=.phase }],guard:=none }] true).wp Try.prog Q ⟨#[x0,.slice TA n tc,x2,x3,x4,x5,x6,x7,x8,x9,x10,x11,.pointer (some ⟨wb,0,none⟩),x13,x14,x15,x16,x17,x18,x19,x20,x21,x22,x23,x24,x25,x26,x27,x28,x29,x30,x31,x32,x33,x34,x35,x36,x37,x38,x39,x40,x41,x42,x43,x44,x45,x46,x47,x48,x49,x50,x51,x52,x53,x54,x55,x56,x57,x58,x59,x60,x61,x62,x63,x64,x65,x66,x67,x68,x69,x70,x71,x72,x73,x74,x75,x76,x77,x78,x79,x80,x81,x82,x83,x84,x85,x86,x87,x88,x89,x90,x91,x92,x93,x94,x95,x96,x97,x98,x99,x100,x101,x102,x103,x104,x105,x106],[]⟩ wr:=by
 obtain⟨i0,hi0,hz0,hz1,hz2⟩:=info_parts pinfo_bools
 have HY:=ah hnext
 have hS:(fun(w':World)=>w'.cell? ⟨wb,0+4,none⟩=some (.slice BA k bc)) wr:=hC.ak rfl
 have n64:(n:Int)≤64:=by omega
 have hUd:=(Upd.refl Nob wr).drew
 have HCA:=ah (hUd.alloc (.cells (dQ noMark (n+1)) 4))
 have HCB:=ah (HCA.out.alloc (.cells #[.slice (some ⟨wr.drew.heap.size,0,none⟩) (n+1) (n+1)] 77))
 have HGB:=ah ((Cells.new wr.drew 4 (dQ noMark (n+1))).alloc (.cells #[.slice (some ⟨wr.drew.heap.size,0,none⟩) (n+1) (n+1)] 77))
 have hwb:=heap_alloc_new (wr.drew.alloc (.cells (dQ noMark (n+1)) 4)) (.cells #[.slice (some ⟨wr.drew.heap.size,0,none⟩) (n+1) (n+1)] 77)
 rw[World.size_alloc] at hwb
 have HWB:=ah hwb
 have HC:=ah hC
 have HO:=ah hO
 have vw:IntKind.i64.wrap ((n:Int)+1)=(n:Int)+1:=by rw[IntKind.wrap_i64];omega
 clear hnext hC hO hUd hwb
 refine Code.wp_mono (QuietQ.imp (G:=fun _ _ _=>False) (fun _ _ _ h=>h.elim)) ?_
 refine aP.begin 13 (fun(w':World)=>w'.cell? ⟨wb,0+4,none⟩=some (.slice BA k bc)) (by kernel_rfl) hS (fun hSS=>?_)
 refine aP.take (i:=0) (oi:={ dst:=some 71,op:=Op.move (Operand.tmp 12),type:=97,pos:= "ref.go:265",after:=#[],guard:=none }) (v:=?v0nr1815) ?a0nr1815 ?b0nr1815 ?c0nr1815 ?d0nr1815 ?e0nr1815 (fun _ _ _ h=>h) (Or.inl ⟨?f0nr1815,?y0nr1815⟩) (by assumption) ?r0nr1815
 case a0nr1815=>rfl
 case b0nr1815=>kernel_rfl
 case c0nr1815=>kernel_rfl
 case d0nr1815=>kernel_rfl
 case e0nr1815=>kernel_rfl
 case f0nr1815=>rfl
 case y0nr1815=>(intro w' hSw;(try dsimp only at hSw);go_simp;try with_reducible rfl)
 try simp only[Act.put,List.setIfInBounds_toArray,List.set_cons_zero,List.set_cons_succ]
 refine aP.take (i:=1) (oi:={ dst:=some 72,op:=Op.move (Operand.tmp 12),type:=97,pos:= "ref.go:265",after:=#[],guard:=none }) (v:=?v1nr1816) ?a1nr1816 ?b1nr1816 ?c1nr1816 ?d1nr1816 ?e1nr1816 (fun _ _ _ h=>h) (Or.inl ⟨?f1nr1816,?y1nr1816⟩) (by assumption) ?r1nr1816
 case a1nr1816=>rfl
 case b1nr1816=>kernel_rfl
 case c1nr1816=>kernel_rfl
 case d1nr1816=>kernel_rfl
 case e1nr1816=>kernel_rfl
 case f1nr1816=>rfl
 case y1nr1816=>(intro w' hSw;(try dsimp only at hSw);go_simp;try with_reducible rfl)
 try simp only[Act.put,List.setIfInBounds_toArray,List.set_cons_zero,List.set_cons_succ]
 refine aP.take (i:=2) (oi:={ dst:=some 73,op:=Op.nilCheck (Operand.tmp 72),type:=0,pos:= "ref.go:265",after:=#[{ on:=1,ground:=.data }],guard:=none }) (v:=?v2nr1817) ?a2nr1817 ?b2nr1817 ?c2nr1817 ?d2nr1817 ?e2nr1817 (fun _ _ _ h=>h) (Or.inl ⟨?f2nr1817,?y2nr1817⟩) (by assumption) ?r2nr1817
 case a2nr1817=>rfl
 case b2nr1817=>kernel_rfl
 case c2nr1817=>kernel_rfl
 case d2nr1817=>kernel_rfl
 case e2nr1817=>kernel_rfl
 case f2nr1817=>rfl
 case y2nr1817=>(intro w' hSw;(try dsimp only at hSw);go_simp;try with_reducible rfl)
 try simp only[Act.put,List.setIfInBounds_toArray,List.set_cons_zero,List.set_cons_succ]
 refine aP.take (i:=3) (oi:={ dst:=some 74,op:=Op.fieldAddr 100 (Operand.tmp 73) 4,type:=0,pos:= "ref.go:265",after:=#[{ on:=2,ground:=.data }],guard:=none }) (v:=?v3nr1818) ?a3nr1818 ?b3nr1818 ?c3nr1818 ?d3nr1818 ?e3nr1818 (fun _ _ _ h=>h) (Or.inl ⟨?f3nr1818,?y3nr1818⟩) (by assumption) ?r3nr1818
 case a3nr1818=>rfl
 case b3nr1818=>kernel_rfl
 case c3nr1818=>kernel_rfl
 case d3nr1818=>kernel_rfl
 case e3nr1818=>kernel_rfl
 case f3nr1818=>rfl
 case y3nr1818=>(intro w' hSw;(try dsimp only at hSw);go_simp;try with_reducible rfl)
 try simp only[Act.put,List.setIfInBounds_toArray,List.set_cons_zero,List.set_cons_succ]
 refine aP.take (i:=4) (oi:={ dst:=some 75,op:=Op.load 98 (Operand.tmp 74),type:=98,pos:= "ref.go:265",after:=#[{ on:=3,ground:=.data }],guard:=none }) (v:=?v4nr1819) ?a4nr1819 ?b4nr1819 ?c4nr1819 ?d4nr1819 ?e4nr1819 (fun _ _ _ h=>h) (Or.inl ⟨?f4nr1819,?y4nr1819⟩) (by assumption) ?r4nr1819
 case a4nr1819=>rfl
 case b4nr1819=>kernel_rfl
 case c4nr1819=>kernel_rfl
 case d4nr1819=>kernel_rfl
 case e4nr1819=>kernel_rfl
 case f4nr1819=>rfl
 case y4nr1819=>(intro w' hSw;(try dsimp only at hSw);go_simp;try with_reducible rfl)
 try simp only[Act.put,List.setIfInBounds_toArray,List.set_cons_zero,List.set_cons_succ]
 refine aP.take (i:=5) (oi:={ dst:=some 76,op:=Op.move (Operand.tmp 1),type:=28,pos:= "ref.go:265",after:=#[],guard:=none }) (v:=?v5nr1820) ?a5nr1820 ?b5nr1820 ?c5nr1820 ?d5nr1820 ?e5nr1820 (fun _ _ _ h=>h) (Or.inl ⟨?f5nr1820,?y5nr1820⟩) (by assumption) ?r5nr1820
 case a5nr1820=>rfl
 case b5nr1820=>kernel_rfl
 case c5nr1820=>kernel_rfl
 case d5nr1820=>kernel_rfl
 case e5nr1820=>kernel_rfl
 case f5nr1820=>rfl
 case y5nr1820=>(intro w' hSw;(try dsimp only at hSw);go_simp;try with_reducible rfl)
 try simp only[Act.put,List.setIfInBounds_toArray,List.set_cons_zero,List.set_cons_succ]
 refine aP.take (i:=6) (oi:={ dst:=some 77,op:=Op.call { callee:=Callee.builtin Builtin.len,args:=#[Operand.tmp 76],argTypes:=#[28] },type:=3,pos:= "ref.go:265",after:=#[{ on:=5,ground:=.data }],guard:=none }) (v:=?v6nr1821) ?a6nr1821 ?b6nr1821 ?c6nr1821 ?d6nr1821 ?e6nr1821 (fun _ _ _ h=>h) (Or.inl ⟨?f6nr1821,?y6nr1821⟩) (by assumption) ?r6nr1821
 case a6nr1821=>rfl
 case b6nr1821=>kernel_rfl
 case c6nr1821=>kernel_rfl
 case d6nr1821=>kernel_rfl
 case e6nr1821=>kernel_rfl
 case f6nr1821=>rfl
 case y6nr1821=>(intro w' hSw;(try dsimp only at hSw);go_simp;try with_reducible rfl)
 try simp only[Act.put,List.setIfInBounds_toArray,List.set_cons_zero,List.set_cons_succ]
 refine aP.take (i:=7) (oi:={ dst:=some 78,op:=Op.binOp BinOp.add 3 (Operand.tmp 77) (Operand.const (Value.int IntKind.i64 1)) 3,type:=3,pos:= "ref.go:265",after:=#[{ on:=6,ground:=.data }],guard:=none }) (v:=?v7nr1822) ?a7nr1822 ?b7nr1822 ?c7nr1822 ?d7nr1822 ?e7nr1822 (fun _ _ _ h=>h) (Or.inl ⟨?f7nr1822,?y7nr1822⟩) (by assumption) ?r7nr1822
 case a7nr1822=>rfl
 case b7nr1822=>kernel_rfl
 case c7nr1822=>kernel_rfl
 case d7nr1822=>kernel_rfl
 case e7nr1822=>kernel_rfl
 case f7nr1822=>rfl
 case y7nr1822=>(intro w' hSw;(try dsimp only at hSw);go_simp;try with_reducible rfl)
 try simp only[Act.put,List.setIfInBounds_toArray,List.set_cons_zero,List.set_cons_succ]
 clear hSS hS
 refine aP.one (i:=8) (o:={ dst:=some 79,op:=Op.makeSlice 77 (Operand.tmp 78) (Operand.tmp 78),type:=77,pos:= "ref.go:265",after:=#[{ on:=7,ground:=.data },{ on:=7,ground:=.data }],guard:=none }) ?pr1823 ?qr1823 ?_
 case pr1823=>kernel_rfl
 case qr1823=>rfl
 intro K' hK
 refine step_make_marks wr.drew rfl (.tmp 78) rfl _ (n+1) (by rfl) (by omega) (by omega) ?_
 refine hK.out _ _ (.inr ((HC.out.upd HCA.out aj).ak rfl)) ?_;clear hK K'
 try simp only[Act.put,List.setIfInBounds_toArray,List.set_cons_zero,List.set_cons_succ]
 refine aP.one (i:=9) (o:={ dst:=some 80,op:=Op.buildSlice 98 1 #[(0,Operand.tmp 79)],type:=98,pos:= "ref.go:265",after:=#[{ on:=8,ground:=.data }],guard:=none }) ?pr1824 ?qr1824 ?_
 case pr1824=>kernel_rfl
 case qr1824=>rfl
 intro K' hK
 go_simp
 refine hK.out _ _ (.inr ((HC.out.upd HCB.out aj).ak rfl)) ?_;clear hK K'
 try simp only[Act.put,List.setIfInBounds_toArray,List.set_cons_zero,List.set_cons_succ]
 refine aP.one (i:=10) (o:={ dst:=some 81,op:=Op.call { callee:=Callee.builtin Builtin.append,args:=#[Operand.tmp 75,Operand.tmp 80],argTypes:=#[98, 98] },type:=98,pos:= "ref.go:265",after:=#[{ on:=4,ground:=.data },{ on:=9,ground:=.data }],guard:=none }) ?pr1825 ?qr1825 ?_
 case pr1825=>kernel_rfl
 case qr1825=>rfl
 intro K' hK
 have P9:=aJ HO.out HCB.out (fun _ _=>aj)
 refine step_append_lies _ rfl (.tmp 75) (.tmp 80) 98 rfl base 77 i0 _ 1 24 Try.underlying98 hi0 hz0 hz1 hz2 rfl (by decide) (.slice BA k bc) k vs (by rfl) P9 ⟨wr.drew.heap.size+1,0,none⟩ 1 1 [.slice (some ⟨wr.drew.heap.size,0,none⟩) (n+1) (n+1)] (by rfl) (by rfl) (World.news_of_block (cs:=#[.slice (some ⟨wr.drew.heap.size,0,none⟩) (n+1) (n+1)]) (t:=77) (fr:=(0,0)) HWB.out) (by intro u hu;simp at hu;subst hu;rfl) (by decide) (by unfold maxLen;omega) (by omega) (Nat.le_trans hb HCB.out.size) (wr.heap.size+2) (by show((wr.alloc (.cells (dQ noMark (n+1)) 4)).alloc (.cells #[.slice (some ⟨wr.heap.size,0,none⟩) (n+1) (n+1)] 77)).heap.size=wr.heap.size+2;rw[World.size_alloc,World.size_alloc]) ?_
 intro gN cN w4 oN gr hat hltN
 have UB:=(HCB.out.mono (fun _ _ h=>absurd h aj)).grown (F:=fun b=>(Value.slice BA k bc).ownBlock=some b) gr (fun b hb _=>hb)
 have C4:=HC.out.upd UB (fun e=>own_ne HO.out HC.out (by decide) e)
 have G4:Cells w4 wr.heap.size 4 (dQ noMark (n+1)):=HGB.out.grown gr (fun e=>own_ne P9 HGB.out (by decide) e)
 refine hK.out _ _ (.inr (C4.ak rfl)) ?_;clear hK K'
 try simp only[Act.put,List.setIfInBounds_toArray,List.set_cons_zero,List.set_cons_succ]
 refine aP.one (i:=11) (o:={ dst:=some 82,op:=Op.nilCheck (Operand.tmp 71),type:=0,pos:= "ref.go:265",after:=#[{ on:=0,ground:=.data },{ on:=0,ground:=.phase },{ on:=1,ground:=.phase },{ on:=2,ground:=.phase },{ on:=3,ground:=.phase },{ on:=4,ground:=.phase },{ on:=5,ground:=.phase },{ on:=6,ground:=.phase },{ on:=7,ground:=.phase },{ on:=8,ground:=.phase },{ on:=9,ground:=.phase },{ on:=10,ground:=.phase }],guard:=none }) ?pr1826 ?qr1826 ?_
 case pr1826=>kernel_rfl
 case qr1826=>rfl
 intro K' hK
 go_simp
 refine hK.out _ _ (.inr (C4.ak rfl)) ?_;clear hK K'
 try simp only[Act.put,List.setIfInBounds_toArray,List.set_cons_zero,List.set_cons_succ]
 refine aP.one (i:=12) (o:={ dst:=some 83,op:=Op.fieldAddr 100 (Operand.tmp 82) 4,type:=0,pos:= "ref.go:265",after:=#[{ on:=11,ground:=.data },{ on:=0,ground:=.phase },{ on:=1,ground:=.phase },{ on:=2,ground:=.phase },{ on:=3,ground:=.phase },{ on:=4,ground:=.phase },{ on:=5,ground:=.phase },{ on:=6,ground:=.phase },{ on:=7,ground:=.phase },{ on:=8,ground:=.phase },{ on:=9,ground:=.phase },{ on:=10,ground:=.phase }],guard:=none }) ?pr1827 ?qr1827 ?_
 case pr1827=>kernel_rfl
 case qr1827=>rfl
 intro K' hK
 go_simp
 refine hK.out _ _ (.inr (C4.ak rfl)) ?_;clear hK K'
 try simp only[Act.put,List.setIfInBounds_toArray,List.set_cons_zero,List.set_cons_succ]
 have s0:w4.cell? ⟨wb,0+4,none⟩=some (.slice BA k bc):=C4.ak rfl
 have z0:w4.frozen? ⟨wb,0+4,none⟩=false:=C4.frozen _
 refine aP.one (i:=13) (o:={ dst:=none,op:=Op.store 98 (Operand.tmp 83) (Operand.tmp 81),type:=0,pos:= "ref.go:265",after:=#[{ on:=12,ground:=.data },{ on:=10,ground:=.data },{ on:=10,ground:=.chain },{ on:=0,ground:=.phase },{ on:=1,ground:=.phase },{ on:=2,ground:=.phase },{ on:=3,ground:=.phase },{ on:=4,ground:=.phase },{ on:=5,ground:=.phase },{ on:=6,ground:=.phase },{ on:=7,ground:=.phase },{ on:=8,ground:=.phase },{ on:=9,ground:=.phase },{ on:=10,ground:=.phase }],guard:=none }) ?pr1828 ?qr1828 ?_
 case pr1828=>kernel_rfl
 case qr1828=>rfl
 intro K' hK
 go_simp
 refine hK.out _ _ (.inl rfl) ?_;clear hK K'
 refine aP.done ?_ ?_ _
 ·kernel_rfl
 exact HY.out _ _ _ _ _ _ _ _ _ _ _ _ _ w4 _ gN cN UB rfl G4 hat oN C4
end Go.Proofs.Ytnkefclbchpafaa
