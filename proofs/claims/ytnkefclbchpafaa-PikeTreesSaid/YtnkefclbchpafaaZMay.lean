/-
  May, put together.
-/
import Derived.Test.YtnkefclbchpafaaZ02TreeP

/-
  The walk of prog.may: may an instruction be in a program? (printed by gen_may.py)
-/
namespace Go.Proofs.Ytnkefclbchpafaa
set_option maxHeartbeats 16000000
open Go.RowKit
set_option linter.unusedVariables false
theorem bS (w:World) (b:Nat) (n:Nat) (i:Int) (hi:In64 i) (hb:w.cell? ⟨b,0,none⟩=some (.int .i64 (n:Int))) :
  Calls Try.prog 70 #[.int .i64 i,.pointer (some ⟨b,0,none⟩)] w fun e w'=>e=.returned (.bool (dh i n))∧w=w':=by
 by_cases h0:i < 0
 ·rw[show dh i n=false from decide_eq_false (by omega)]
  go_enter Try.func70,Try.ntmps70
  go_wp2
  go_ret
  exact⟨rfl,rfl⟩
 ·by_cases h1:i < n
  ·rw[show dh i n=true from decide_eq_true (by omega)]
   go_enter Try.func70,Try.ntmps70
   go_wp2
   go_ret
   exact⟨rfl,rfl⟩
  ·rw[show dh i n=false from decide_eq_false (by omega)]
   have h2:decide (i < (n:Int))=false:=decide_eq_false h1
   go_enter Try.func70,Try.ntmps70
   go_wp2
   go_ret
   exact⟨congrArg Ending.returned (congrArg Value.bool (by simp <;> omega)),rfl⟩
structure In64I (z:av):Prop where
 iop:In64 z.op
 ix:In64 z.x
 iy:In64 z.y
 iarg:In64 z.arg
theorem may_any (w:World) (S:Nat→Prop) (op x y arg:Int) (rs:List (Int × Int)) (hI:In64I ⟨op,x,y,arg,rs⟩) (B:Option Addr) (m c:Nat) (hR:bO w S B m rs) (n:Nat) (caps:Int) :
  Calls Try.prog 47 #[.agg #[.int .i64 op,.int .i64 x,.int .i64 y,.int .i64 arg,.slice B m c],.int .i64 (n:Int),.int .i64 caps] w
   fun e w'=>e=.returned (.bool (bC ⟨op,x,y,arg,rs⟩ n caps))∧Upd Nob w w':=by
 obtain rfl:rs.length=m:=hR.len
 have hxi:In64 x:=hI.ix
 have hyi:In64 y:=hI.iy
 have x1:=hxi.1
 have x2:=hxi.2
 have hmf:∀(fn:Fn) (first cap:Array Value) (w:World),(Instr.makeFunc fn first cap).run Try.prog w=.ok (.func fn first cap) w:=fun _ _ _ _=>rfl
 have C0:Cells (w.alloc (.cells #[.int .i64 op,.int .i64 x,.int .i64 y,.int .i64 arg,.slice B rs.length c] 64)) w.heap.size 64 #[.int .i64 op,.int .i64 x,.int .i64 y,.int .i64 arg,.slice B rs.length c]:=Cells.new _ _ _
 have C1:=Cells.new (w.alloc (.cells #[.int .i64 op,.int .i64 x,.int .i64 y,.int .i64 arg,.slice B rs.length c] 64)) 3 #[.int .i64 (n:Int)]
 have hU:Upd Nob w ((w.alloc (.cells #[.int .i64 op,.int .i64 x,.int .i64 y,.int .i64 arg,.slice B rs.length c] 64)).alloc (.cells #[.int .i64 (n:Int)] 3)):=((Upd.refl Nob w).alloc _).alloc _
 have C2:=C0.alloc (.cells #[.int .i64 (n:Int)] 3)
 rw[World.size_alloc] at C1
 have HR:=ah (hR.upd hU (fun _ _=>aj))
 clear hR C0 hI
 go_enter Try.func47,Try.ntmps47
 go_upto_region 2 with fail
 generalize ((w.alloc (.cells #[.int .i64 op,.int .i64 x,.int .i64 y,.int .i64 arg,.slice B rs.length c] 64)).alloc (.cells #[.int .i64 (n:Int)] 3))=w2 at *
 have e0:w2.cell? ⟨w.heap.size,0,none⟩=some (.int .i64 op):=C2.ak rfl
 have e1:w2.cell? ⟨w.heap.size,0+1,none⟩=some (.int .i64 x):=C2.ak rfl
 have e2:w2.cell? ⟨w.heap.size,0+2,none⟩=some (.int .i64 y):=C2.ak rfl
 have e3:w2.cell? ⟨w.heap.size,0+3,none⟩=some (.int .i64 arg):=C2.ak rfl
 have e4:w2.cell? ⟨w.heap.size,0+4,none⟩=some (.slice B rs.length c):=C2.ak rfl
 have e5:w2.cell? ⟨w.heap.size+1,0,none⟩=some (.int .i64 (n:Int)):=C1.ak rfl
 clear C1 C2
 by_cases o1:op=1
 ·subst o1
  by_cases hy:y=0
  rotate_left
  ·have hy1:(y==0)=false:=by simpa using hy
   have hv:bC ⟨1,x,y,arg,rs⟩ n caps=false:=by simp[bC,hy]
   have HV:=ah hv
   clear hv
   go_wp2_with fail
   go_ret
   exact⟨congrArg Ending.returned (congrArg Value.bool (by first | exact HV.out.symm | (rw[HV.out];simp <;> omega))),hU⟩
  subst hy
  rcases ht:dh x n with _ | _
  ·skip
   have hv:bC ⟨1,x,0,arg,rs⟩ n caps=false:=by simp[bC,ht]
   have HV:=ah hv
   clear hv
   go_wp2_with (go_at_call 70;refine(bS _ _ n _ (by assumption) (by assumption)).mono ?_;rintro e w1 ⟨he,rfl⟩;simp only[ht] at he;subst he)
   go_ret
   exact⟨congrArg Ending.returned (congrArg Value.bool (by first | exact HV.out.symm | (rw[HV.out];simp <;> omega))),hU⟩
  by_cases ha:arg=0
  rotate_left
  ·have ha1:(arg==0)=false:=by simpa using ha
   have hv:bC ⟨1,x,0,arg,rs⟩ n caps=false:=by simp[bC,ha]
   have HV:=ah hv
   clear hv
   go_wp2_with (go_at_call 70;refine(bS _ _ n _ (by assumption) (by assumption)).mono ?_;rintro e w1 ⟨he,rfl⟩;simp only[ht] at he;subst he)
   go_ret
   exact⟨congrArg Ending.returned (congrArg Value.bool (by first | exact HV.out.symm | (rw[HV.out];simp <;> omega))),hU⟩
  subst ha
  by_cases hl:rs.length=0
  ·have hl1:¬0 < rs.length:=by omega
   have hv:bC ⟨1,x,0,0,rs⟩ n caps=false:=by simp[bC,hl]
   have HV:=ah hv
   clear hv
   go_wp2_with (go_at_call 70;refine(bS _ _ n _ (by assumption) (by assumption)).mono ?_;rintro e w1 ⟨he,rfl⟩;simp only[ht] at he;subst he)
   go_ret
   exact⟨congrArg Ending.returned (congrArg Value.bool (by first | exact HV.out.symm | (rw[HV.out];simp <;> omega))),hU⟩
  have hl1:0 < rs.length:=by omega
  have hv:bC ⟨1,x,0,0,rs⟩ n caps=bq rs:=by simp[bC,ht,hl1]
  have HV:=ah hv
  clear hv
  go_wp2_with (first | (go_at_call 70;refine(bS _ _ n _ (by assumption) (by assumption)).mono ?_;rintro e w1 ⟨he,rfl⟩;simp only[ht] at he;subst he) | (go_at_call 71;refine(right_any _ S B rs.length c rs HR.out).mono ?_;rintro e w1 ⟨rfl,hU3⟩))
  go_ret
  exact⟨congrArg Ending.returned (congrArg Value.bool HV.out.symm),hU.trans hU3 (fun _ _ h=>h)⟩
 have o1b:(op==1)=false:=by simpa using o1
 by_cases o2:op=2
 ·subst o2
  by_cases hl:rs.length=0
  rotate_left
  ·have hl1:0 < rs.length:=by omega
   have hv:bC ⟨2,x,y,arg,rs⟩ n caps=false:=by simp[bC,hl]
   have HV:=ah hv
   clear hv
   go_wp2_with fail
   go_ret
   exact⟨congrArg Ending.returned (congrArg Value.bool (by first | exact HV.out.symm | (rw[HV.out];simp <;> omega))),hU⟩
  rcases ht:dh x n with _ | _
  ·skip
   have hv:bC ⟨2,x,y,arg,rs⟩ n caps=false:=by simp[bC,ht]
   have HV:=ah hv
   clear hv
   go_wp2_with (go_at_call 70;refine(bS _ _ n _ (by assumption) (by assumption)).mono ?_;rintro e w1 ⟨he,rfl⟩;simp only[ht] at he;subst he)
   go_ret
   exact⟨congrArg Ending.returned (congrArg Value.bool (by first | exact HV.out.symm | (rw[HV.out];simp <;> omega))),hU⟩
  rcases hs:dh y n with _ | _
  ·skip
   have hv:bC ⟨2,x,y,arg,rs⟩ n caps=false:=by simp[bC,hs]
   have HV:=ah hv
   clear hv
   go_wp2_with (go_at_call 70;refine(bS _ _ n _ (by assumption) (by assumption)).mono ?_;rintro e w1 ⟨he,rfl⟩;simp only[ht,hs] at he;subst he)
   go_ret
   exact⟨congrArg Ending.returned (congrArg Value.bool (by first | exact HV.out.symm | (rw[HV.out];simp <;> omega))),hU⟩
  by_cases ha:arg=0
  rotate_left
  ·have ha1:(arg==0)=false:=by simpa using ha
   have hv:bC ⟨2,x,y,arg,rs⟩ n caps=false:=by simp[bC,ha]
   have HV:=ah hv
   clear hv
   go_wp2_with (go_at_call 70;refine(bS _ _ n _ (by assumption) (by assumption)).mono ?_;rintro e w1 ⟨he,rfl⟩;simp only[ht,hs] at he;subst he)
   go_ret
   exact⟨congrArg Ending.returned (congrArg Value.bool (by first | exact HV.out.symm | (rw[HV.out];simp <;> omega))),hU⟩
  subst ha
  have hv:bC ⟨2,x,y,0,rs⟩ n caps=true:=by simp[bC,ht,hs,hl]
  have HV:=ah hv
  clear hv
  go_wp2_with (go_at_call 70;refine(bS _ _ n _ (by assumption) (by assumption)).mono ?_;rintro e w1 ⟨he,rfl⟩;simp only[ht,hs] at he;subst he)
  go_ret
  exact⟨congrArg Ending.returned (congrArg Value.bool (by first | exact HV.out.symm | (rw[HV.out];simp <;> omega))),hU⟩
 have o2b:(op==2)=false:=by simpa using o2
 have o1n:(op != 1)=true:=by simpa using o1
 have o2n:(op != 2)=true:=by simpa using o2
 by_cases hl:rs.length=0
 rotate_left
 ·have hl1:0 < rs.length:=by omega
  have hv:bC ⟨op,x,y,arg,rs⟩ n caps=false:=by simp[bC,hl,o1,o2]
  have HV:=ah hv
  clear hv
  go_wp2_with fail
  go_ret
  exact⟨congrArg Ending.returned (congrArg Value.bool (by first | exact HV.out.symm | (rw[HV.out];simp <;> omega))),hU⟩
 by_cases hy:y=0
 rotate_left
 ·have hy1:(y==0)=false:=by simpa using hy
  have hy2:(y != 0)=true:=by simpa using hy
  have hv:bC ⟨op,x,y,arg,rs⟩ n caps=false:=by simp[bC,hy,o1,o2]
  have HV:=ah hv
  clear hv
  go_wp2_with fail
  go_ret
  exact⟨congrArg Ending.returned (congrArg Value.bool (by first | exact HV.out.symm | (rw[HV.out];simp <;> omega))),hU⟩
 subst hy
 by_cases o3:op=3
 ·subst o3
  rcases ht:dh x n with _ | _
  ·skip
   have hv:bC ⟨3,x,0,arg,rs⟩ n caps=false:=by simp[bC,ht]
   have HV:=ah hv
   clear hv
   go_wp2_with (go_at_call 70;refine(bS _ _ n _ (by assumption) (by assumption)).mono ?_;rintro e w1 ⟨he,rfl⟩;simp only[ht] at he;subst he)
   go_ret
   exact⟨congrArg Ending.returned (congrArg Value.bool (by first | exact HV.out.symm | (rw[HV.out];simp <;> omega))),hU⟩
  by_cases ha:0≤arg
  rotate_left
  ·have ha1:decide (0≤arg)=false:=decide_eq_false ha
   have hv:bC ⟨3,x,0,arg,rs⟩ n caps=false:=by simp[bC,ha]
   have HV:=ah hv
   clear hv
   go_wp2_with (go_at_call 70;refine(bS _ _ n _ (by assumption) (by assumption)).mono ?_;rintro e w1 ⟨he,rfl⟩;simp only[ht] at he;subst he)
   go_ret
   exact⟨congrArg Ending.returned (congrArg Value.bool (by first | exact HV.out.symm | (rw[HV.out];simp <;> omega))),hU⟩
  by_cases hb:arg < caps
  rotate_left
  ·have hb1:decide (arg < caps)=false:=decide_eq_false hb
   have hv:bC ⟨3,x,0,arg,rs⟩ n caps=false:=by simp[bC,ha,hb]
   have HV:=ah hv
   clear hv
   go_wp2_with (go_at_call 70;refine(bS _ _ n _ (by assumption) (by assumption)).mono ?_;rintro e w1 ⟨he,rfl⟩;simp only[ht] at he;subst he)
   go_ret
   exact⟨congrArg Ending.returned (congrArg Value.bool (by first | exact HV.out.symm | (rw[HV.out];simp <;> omega))),hU⟩
  have hv:bC ⟨3,x,0,arg,rs⟩ n caps=true:=by simp[bC,ht,ha,hb,hl]
  have HV:=ah hv
  clear hv
  go_wp2_with (go_at_call 70;refine(bS _ _ n _ (by assumption) (by assumption)).mono ?_;rintro e w1 ⟨he,rfl⟩;simp only[ht] at he;subst he)
  go_ret
  exact⟨congrArg Ending.returned (congrArg Value.bool (by first | exact HV.out.symm | (rw[HV.out];simp <;> omega))),hU⟩
 by_cases o4:op=4
 ·subst o4
  by_cases a1:arg=1
  ·subst a1
   have hv:bC ⟨4,x,0,1,rs⟩ n caps=dh x n:=by simp[bC,jY,hl]
   have HV:=ah hv
   clear hv
   go_wp2_with (go_at_call 70;refine(bS _ _ n _ (by assumption) (by assumption)).mono ?_;rintro e w1 ⟨he,rfl⟩;subst he)
   go_ret
   exact⟨congrArg Ending.returned (congrArg Value.bool (by first | exact HV.out.symm | (rw[HV.out];simp <;> omega))),hU⟩
  by_cases a2:arg=2
  ·subst a2
   have hv:bC ⟨4,x,0,2,rs⟩ n caps=dh x n:=by simp[bC,jY,hl]
   have HV:=ah hv
   clear hv
   go_wp2_with (go_at_call 70;refine(bS _ _ n _ (by assumption) (by assumption)).mono ?_;rintro e w1 ⟨he,rfl⟩;subst he)
   go_ret
   exact⟨congrArg Ending.returned (congrArg Value.bool (by first | exact HV.out.symm | (rw[HV.out];simp <;> omega))),hU⟩
  by_cases a4:arg=4
  ·subst a4
   have hv:bC ⟨4,x,0,4,rs⟩ n caps=dh x n:=by simp[bC,jY,hl]
   have HV:=ah hv
   clear hv
   go_wp2_with (go_at_call 70;refine(bS _ _ n _ (by assumption) (by assumption)).mono ?_;rintro e w1 ⟨he,rfl⟩;subst he)
   go_ret
   exact⟨congrArg Ending.returned (congrArg Value.bool (by first | exact HV.out.symm | (rw[HV.out];simp <;> omega))),hU⟩
  by_cases a8:arg=8
  ·subst a8
   have hv:bC ⟨4,x,0,8,rs⟩ n caps=dh x n:=by simp[bC,jY,hl]
   have HV:=ah hv
   clear hv
   go_wp2_with (go_at_call 70;refine(bS _ _ n _ (by assumption) (by assumption)).mono ?_;rintro e w1 ⟨he,rfl⟩;subst he)
   go_ret
   exact⟨congrArg Ending.returned (congrArg Value.bool (by first | exact HV.out.symm | (rw[HV.out];simp <;> omega))),hU⟩
  by_cases a16:arg=16
  ·subst a16
   have hv:bC ⟨4,x,0,16,rs⟩ n caps=dh x n:=by simp[bC,jY,hl]
   have HV:=ah hv
   clear hv
   go_wp2_with (go_at_call 70;refine(bS _ _ n _ (by assumption) (by assumption)).mono ?_;rintro e w1 ⟨he,rfl⟩;subst he)
   go_ret
   exact⟨congrArg Ending.returned (congrArg Value.bool (by first | exact HV.out.symm | (rw[HV.out];simp <;> omega))),hU⟩
  by_cases a32:arg=32
  ·subst a32
   have hv:bC ⟨4,x,0,32,rs⟩ n caps=dh x n:=by simp[bC,jY,hl]
   have HV:=ah hv
   clear hv
   go_wp2_with (go_at_call 70;refine(bS _ _ n _ (by assumption) (by assumption)).mono ?_;rintro e w1 ⟨he,rfl⟩;subst he)
   go_ret
   exact⟨congrArg Ending.returned (congrArg Value.bool (by first | exact HV.out.symm | (rw[HV.out];simp <;> omega))),hU⟩
  have f1:(arg==1)=false:=by simpa using a1
  have f2:(arg==2)=false:=by simpa using a2
  have f4:(arg==4)=false:=by simpa using a4
  have f8:(arg==8)=false:=by simpa using a8
  have f16:(arg==16)=false:=by simpa using a16
  have f32:(arg==32)=false:=by simpa using a32
  have hv:bC ⟨4,x,0,arg,rs⟩ n caps=false:=by simp[bC,jY,a1,a2,a4,a8,a16,a32]
  have HV:=ah hv
  clear hv
  go_wp2_with fail
  go_ret
  exact⟨congrArg Ending.returned (congrArg Value.bool (by first | exact HV.out.symm | (rw[HV.out];simp <;> omega))),hU⟩
 by_cases o5:op=5
 ·subst o5
  by_cases hx:x=0
  rotate_left
  ·have hx1:(x==0)=false:=by simpa using hx
   have hv:bC ⟨5,x,0,arg,rs⟩ n caps=false:=by simp[bC,hx]
   have HV:=ah hv
   clear hv
   go_wp2_with fail
   go_ret
   exact⟨congrArg Ending.returned (congrArg Value.bool (by first | exact HV.out.symm | (rw[HV.out];simp <;> omega))),hU⟩
  subst hx
  by_cases ha:0≤arg
  rotate_left
  ·have ha1:decide (0≤arg)=false:=decide_eq_false ha
   have hv:bC ⟨5,0,0,arg,rs⟩ n caps=false:=by simp[bC,ha]
   have HV:=ah hv
   clear hv
   go_wp2_with fail
   go_ret
   exact⟨congrArg Ending.returned (congrArg Value.bool (by first | exact HV.out.symm | (rw[HV.out];simp <;> omega))),hU⟩
  by_cases hb:arg < 100
  rotate_left
  ·have hb1:decide (arg < 100)=false:=decide_eq_false hb
   have hv:bC ⟨5,0,0,arg,rs⟩ n caps=false:=by simp[bC,ha,hb]
   have HV:=ah hv
   clear hv
   go_wp2_with fail
   go_ret
   exact⟨congrArg Ending.returned (congrArg Value.bool (by first | exact HV.out.symm | (rw[HV.out];simp <;> omega))),hU⟩
  have hv:bC ⟨5,0,0,arg,rs⟩ n caps=true:=by simp[bC,ha,hb,hl]
  have HV:=ah hv
  clear hv
  go_wp2_with fail
  go_ret
  exact⟨congrArg Ending.returned (congrArg Value.bool (by first | exact HV.out.symm | (rw[HV.out];simp <;> omega))),hU⟩
 by_cases o6:op=6
 ·subst o6
  by_cases hx:x=0
  rotate_left
  ·have hx1:(x==0)=false:=by simpa using hx
   have hv:bC ⟨6,x,0,arg,rs⟩ n caps=false:=by simp[bC,hx]
   have HV:=ah hv
   clear hv
   go_wp2_with fail
   go_ret
   exact⟨congrArg Ending.returned (congrArg Value.bool (by first | exact HV.out.symm | (rw[HV.out];simp <;> omega))),hU⟩
  subst hx
  by_cases ha:arg=0
  rotate_left
  ·have ha1:(arg==0)=false:=by simpa using ha
   have hv:bC ⟨6,0,0,arg,rs⟩ n caps=false:=by simp[bC,ha]
   have HV:=ah hv
   clear hv
   go_wp2_with fail
   go_ret
   exact⟨congrArg Ending.returned (congrArg Value.bool (by first | exact HV.out.symm | (rw[HV.out];simp <;> omega))),hU⟩
  subst ha
  have hv:bC ⟨6,0,0,0,rs⟩ n caps=true:=by simp[bC,hl]
  have HV:=ah hv
  clear hv
  go_wp2_with fail
  go_ret
  exact⟨congrArg Ending.returned (congrArg Value.bool (by first | exact HV.out.symm | (rw[HV.out];simp <;> omega))),hU⟩
 by_cases o7:op=7
 ·subst o7
  rcases ht:dh x n with _ | _
  ·skip
   have hv:bC ⟨7,x,0,arg,rs⟩ n caps=false:=by simp[bC,ht]
   have HV:=ah hv
   clear hv
   go_wp2_with (go_at_call 70;refine(bS _ _ n _ (by assumption) (by assumption)).mono ?_;rintro e w1 ⟨he,rfl⟩;simp only[ht] at he;subst he)
   go_ret
   exact⟨congrArg Ending.returned (congrArg Value.bool (by first | exact HV.out.symm | (rw[HV.out];simp <;> omega))),hU⟩
  by_cases ha:arg=0
  rotate_left
  ·have ha1:(arg==0)=false:=by simpa using ha
   have hv:bC ⟨7,x,0,arg,rs⟩ n caps=false:=by simp[bC,ha]
   have HV:=ah hv
   clear hv
   go_wp2_with (go_at_call 70;refine(bS _ _ n _ (by assumption) (by assumption)).mono ?_;rintro e w1 ⟨he,rfl⟩;simp only[ht] at he;subst he)
   go_ret
   exact⟨congrArg Ending.returned (congrArg Value.bool (by first | exact HV.out.symm | (rw[HV.out];simp <;> omega))),hU⟩
  subst ha
  have hv:bC ⟨7,x,0,0,rs⟩ n caps=true:=by simp[bC,ht,hl]
  have HV:=ah hv
  clear hv
  go_wp2_with (go_at_call 70;refine(bS _ _ n _ (by assumption) (by assumption)).mono ?_;rintro e w1 ⟨he,rfl⟩;simp only[ht] at he;subst he)
  go_ret
  exact⟨congrArg Ending.returned (congrArg Value.bool (by first | exact HV.out.symm | (rw[HV.out];simp <;> omega))),hU⟩
 have o3b:(op==3)=false:=by simpa using o3
 have o4b:(op==4)=false:=by simpa using o4
 have o5b:(op==5)=false:=by simpa using o5
 have o6b:(op==6)=false:=by simpa using o6
 have o7b:(op==7)=false:=by simpa using o7
 have hv:bC ⟨op,x,0,arg,rs⟩ n caps=false:=by simp[bC,o1,o2,o3,o4,o5,o6,o7]
 have HV:=ah hv
 clear hv
 go_wp2_with fail
 go_ret
 exact⟨congrArg Ending.returned (congrArg Value.bool (by first | exact HV.out.symm | (rw[HV.out];simp <;> omega))),hU⟩
end Go.Proofs.Ytnkefclbchpafaa
