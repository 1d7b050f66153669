/-
  RowTrees, put together.
-/
import Derived.Test.YtnkefclbchpafaaRows
import Derived.Test.YtnkefclbchpafaaZ00Unf
import Derived.Test.YtnkefclbchpafaaZ42AskW
import Derived.Test.YtnkefclbchpafaaZTreeV
import Derived.JoinedCond

/-
  heron's PikeTrees: for every input the call answers true, and all that was handed in reads as before: the row's statement, out of the walk. No condition.
-/
namespace Go.Proofs.Ytnkefclbchpafaa.pikeTrees
set_option maxRecDepth 100000
open Go.ChangeShapes Go.WideShapes Go.ChangeAt Go.RowKit
open Go.ChangeMaps (open_string shut_string)
set_option linter.unusedVariables false
theorem own:ownKnob Try.prog.godebug=none:=by kernel_rfl
theorem laidOut:laidOutB Try.prog=true:=by kernel_rfl
theorem bytesInt:Try.checked.prog.bytesOf 3=8:=by kernel_rfl
theorem lifted (os:Os) (started:os.Started) (H:Type) (enc:TypeId × Value→H) :
  ReturnsInHanded {} Try.checked os 5 .any (Rows.pikeTreesSpec.pre6 enc Try.prog Try.f5 Rows.pikeTreesRow.domain false) (Rows.pikeTreesSpec.post enc Try.prog Try.f5 false true false false):=by
 refine returnsInHanded_of_change_sized (C:=Try.checked) own started (by kernel_rfl) Try.func5
  (ChangeSpec.witness6 (enc:=enc) (C:=Try.checked) false ⟨#[],#[.agg #[.int .i64 0,.slice none 0 0,.int .i64 0,.slice none 0 0,.int .i64 0,.int .i64 0,.bool false,.int .i64 0,.string ByteArray.empty],.agg #[.slice none 0 0,.int .i64 0,.bool false]],[]⟩ 8 (by kernel_rfl) (by kernel_rfl) (by kernel_rfl) (by kernel_rfl)) ?_
 intro W base args ds gs before hval0 hW hcnd hsz0 _
 have hval:∀(j:Nat) t v,Try.f5.params[j]?=some t→args[j]?=some v→Value.okWide Try.prog W .any base t v:=hval0
 have hsz:(DataW.weightsEach Try.checked.prog (Try.f5.params.toList++Rows.pikeTreesSpec.plain.varTypes Try.prog) (ds++gs)).all (·≤reachBytes)=true:=hsz0
 have hW':=hW
 obtain⟨p,q,hA0,hV,rfl,hfz,hnd⟩:=hW
 have hA:DataW.TrodAll enc Try.prog W 0 (fun _=>true) true Try.f5.params.toList args.toList ds p:=hA0
 rw[Try.params5] at hA hval hsz
 obtain⟨v0,vs0,d0,ds0,p0,q0,hargs,rfl,rfl,h0,r0⟩:=trodAll_cons hA
 obtain⟨v1,vs1,d1,ds1,p1,q1,rfl,rfl,rfl,h1,r1⟩:=trodAll_cons r0
 obtain⟨rfl,rfl,rfl⟩:=trodAll_nil r1
 obtain rfl:args=#[v0,v1]:=by cases args;simp_all
 obtain⟨rfl,rfl⟩:=trodVars_none hV
 have k0:=h0
 have lt0:∀x∈p0,x.block < W.heap.size:=by obtain⟨m,hm⟩:=k0;exact DataW.trod_lt m _ _ _ hm
 obtain⟨cs0,rfl,-⟩:=okWide_struct Try.underlying47 (hval 0 47 v0 rfl rfl)
 obtain⟨T0,vt0⟩:=view_node Try.underlying47 (by kernel_rfl) (by kernel_rfl) Try.underlying3 Try.underlying44 Try.underlying3 Try.underlying45 Try.underlying3 Try.underlying3
  Try.underlying4 Try.underlying3 Try.underlying9 (by kernel_rfl) Try.underlying66 (by kernel_rfl) (by kernel_rfl) Try.underlying3 Try.underlying3 (by kernel_rfl) h0 (light_arg (P:=Try.prog) hsz (j:=0) (t:=47) rfl rfl)
 have k1:=h1
 have lt1:∀x∈p1,x.block < W.heap.size:=by obtain⟨m,hm⟩:=k1;exact DataW.trod_lt m _ _ _ hm
 obtain⟨cs1,rfl,-⟩:=okWide_struct Try.underlying30 (hval 1 30 v1 rfl rfl)
 obtain⟨A1,n1,c1,xs1,at1,an1,rfl,vt1,vi1,vb1⟩:=view_asked8 Try.underlying30 (by kernel_rfl) (by kernel_rfl) Try.underlying28 Try.underlying3 (by kernel_rfl) (by kernel_rfl) Try.underlying3 Try.underlying4 h1 (light_arg (P:=Try.prog) hsz (j:=1) (t:=30) rfl rfl)
 clear hA0 hval0 hsz0
 refine(pikeTrees_row W _ _ _ T0 A1 n1 c1 xs1 at1 an1 vt0 vt1 vi1).mono fun e W' ⟨he,hU⟩=>?_
 have bel:=hU.below (Nat.le_refl _) (fun _ _=>aj)
 subst he
 exact⟨_,rfl,_,_,_,[],_,[],hW',trodAll_mk1 (shut_bool Try.underlying4 _),(trodAll_cons_mk (Below.trod laidOut (by kernel_rfl) (of_decide_eq_true (by kernel_rfl)) k0 bel lt0) (trodAll_cons_mk (Below.trod laidOut (by kernel_rfl) (of_decide_eq_true (by kernel_rfl)) k1 bel lt1) trodAll_mk0)),rfl,bel.frame _,fun h=>by cases h⟩
theorem over:Rows.pikeTreesRow.holds Try.pinned (OpenSpec.ofChange Rows.pikeTreesSpec) :=
 OpenClaim.holds_of_wide 5 Try.f5 rfl rfl rfl rfl rfl rfl rfl ⟨rfl,rfl,rfl,rfl,rfl⟩ rfl rfl rfl rfl rfl (by kernel_rfl) Try.func5 (by kernel_rfl)
  (of_decide_eq_true (by kernel_rfl)) (by unfold Func.isWrapper;first | (rw[if_pos (by decide +kernel)];kernel_rfl) | (rw[if_neg (by decide +kernel)];exact⟨rfl,rfl⟩))
  (fun os started H enc _=>lifted os started H enc)
theorem proved:Rows.PikeTreesSaid:=over
end Go.Proofs.Ytnkefclbchpafaa.pikeTrees
