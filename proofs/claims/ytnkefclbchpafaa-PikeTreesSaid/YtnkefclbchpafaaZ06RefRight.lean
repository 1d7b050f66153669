/-
  PlainV, RefRight, put together.
-/
import Derived.Test.YtnkefclbchpafaaZ05RefLook

/-
  The document's run of a program, in plain words: a visit, a place, a search. No memory.
-/
namespace Go.Proofs.Ytnkefclbchpafaa
set_option linter.unusedVariables false
def inB (rs:List (Int × Int)) (c:Int):Bool:=rs.any fun x=>decide (x.1≤c∧c≤x.2)
def hasB (rs:List (Int × Int)) (c:Int):Bool:=bq rs && inB rs c
def dI (rs:List (Int × Int)) (text:List Int) (j:Nat):Bool:=match text[j]? with | none=>false | some c=>hasB rs c
structure VSt where
 met:List Bool
 next:List (Nat × List Int)
 found:Option (List Int × Int)
 steps:Nat
 over:Bool
def aO (is:List av) (text:List Int) (j:Nat):Nat→Nat→List Int→VSt→VSt
 | 0,_,_,s=>s
 | f+1,pc,caps,s =>
  if s.over || s.met.getD pc true then s else
  match is[pc]? with
  | none=>s
  | some x =>
   let t:VSt:={ s with met:=s.met.set pc true,steps:=s.steps+1 }
   if x.op=2 then aO is text j f x.y.toNat caps (aO is text j f x.x.toNat caps t)
   else if x.op=7 then aO is text j f x.x.toNat caps t
   else if x.op=3 then aO is text j f x.x.toNat (caps.set x.arg.toNat (j:Int)) t
   else if x.op=4 then if cZ x.arg (part text j 6) then aO is text j f x.x.toNat caps t else t
   else if x.op=1 then if dI x.rs text j then { t with next:=t.next++[(x.x.toNat,caps)] } else t
   else if x.op=5 then { t with found:=some (caps,x.arg),over:=true }
   else t
def ay (is:List av) (text:List Int) (j:Nat):List (Nat × List Int)→VSt→VSt
 | [],s=>s
 | x::r,s=>ay is text j r (aO is text j (is.length+1) x.1 x.2 s)
def iP (is:List av) (start:Nat) (none:List Int) (text:List Int) (j:Nat) (ours:Bool) (threads:List (Nat × List Int)) (found:Option (List Int × Int)) (steps:Nat):VSt :=
 let s:=ay is text j threads { met:=List.replicate is.length false,next:=[],found:=found,steps:=steps,over:=false }
 if ours then aO is text j (is.length+1) start none s else s
def bM (is:List av) (start:Nat) (none:List Int) (text:List Int) (at_:Nat) (anchored:Bool):Nat→Nat→List (Nat × List Int)→Option (List Int × Int)→Nat→Option (List Int × Int) × Nat
 | 0,_,_,found,steps=>(found,steps)
 | f+1,j,threads,found,steps =>
  let s:=iP is start none text j (decide (j=at_) || !anchored && found.isNone) threads found steps
  if s.next.isEmpty && (s.found.isSome || anchored) then (s.found,s.steps)
  else bM is start none text at_ anchored f (j+1) s.next s.found s.steps
def jv (is:List av) (start:Nat) (ncaps:Nat) (text:List Int) (at_:Nat) (anchored:Bool):Option (List Int × Int) × Nat :=
 bM is start (List.replicate ncaps (-1)) text at_ anchored (text.length+1 - at_) at_ [] none 0
theorem bF (is:List av) (text:List Int) (j:Nat):∀(f pc:Nat) (caps:List Int) (s:VSt),(aO is text j f pc caps s).met.length=s.met.length
 | 0,pc,caps,s=>rfl
 | f+1,pc,caps,s=>by
  rw[aO]
  split
  ·rfl
  ·split
   ·rfl
   ·simp only
    split
    ·rw[bF,bF];simp
    ·split
     ·rw[bF];simp
     ·split
      ·rw[bF];simp
      ·split
       ·split
        ·rw[bF];simp
        ·simp
       ·split
        ·split <;> simp
        ·split <;> simp
theorem set_count_le (bs:List Bool) (pc:Nat):(bs.set pc true).count false≤bs.count false:=by
 by_cases h:pc < bs.length
 ·rw[List.count_set h]
  simp
 ·rw[List.set_eq_of_length_le (by omega)]
  exact Nat.le_refl _
theorem dV (is:List av) (text:List Int) (j:Nat):∀(f pc:Nat) (caps:List Int) (s:VSt),(aO is text j f pc caps s).met.count false≤s.met.count false
 | 0,pc,caps,s=>Nat.le_refl _
 | f+1,pc,caps,s=>by
  have hs:=set_count_le s.met pc
  rw[aO]
  split
  ·exact Nat.le_refl _
  ·split
   ·exact Nat.le_refl _
   ·simp only
    split
    ·exact Nat.le_trans (dV is text j f _ _ _) (Nat.le_trans (dV is text j f _ _ _) hs)
    ·split
     ·exact Nat.le_trans (dV is text j f _ _ _) hs
     ·split
      ·exact Nat.le_trans (dV is text j f _ _ _) hs
      ·split
       ·split
        ·exact Nat.le_trans (dV is text j f _ _ _) hs
        ·exact hs
       ·split
        ·split <;> exact hs
        ·split <;> exact hs
end Go.Proofs.Ytnkefclbchpafaa

/-
  The walks of heronref01.Domain, Right, heronref09.may (printed by gen_refmay.py).
-/
namespace Go.Proofs.Ytnkefclbchpafaa
set_option maxRecDepth 100000
set_option maxHeartbeats 16000000
open Go.RowKit
set_option linter.unusedVariables false
theorem fV (w:World) (a b:Nat):∃q,(w.drewN a).drewN b=w.drewN q:=⟨_,World.drewN_drewN _ _ _⟩
theorem add_zero_R (a:Addr):a.add 0=a:=by simp[Addr.add]
theorem iT (w:World) (r:Int) (hr:In64 r):Calls Try.prog 95 #[.int .i64 r] w fun e w'=>e=.returned (.bool (kU r))∧w=w':=by
 have h1:=hr.1
 have h2:=hr.2
 rcases(by omega:r < 0∨1114111 < r∨(0≤r∧r < 55296)∨(55296≤r∧r≤57343)∨(57343 < r∧r≤1114111)) with h | h | ⟨h,h'⟩ | ⟨h,h'⟩ | ⟨h,h'⟩
 ·rw[show kU r=false from decide_eq_false (by omega)]
  have t1:decide (r≤55295)=decide (r < 55296):=by apply decide_eq_decide.2;omega
  have t2:decide (57344≤r)=decide (57343 < r):=by apply decide_eq_decide.2;omega
  go_enter Try.func95,Try.ntmps95
  go_wp2
  go_ret
  exact⟨congrArg Ending.returned (congrArg Value.bool (by first | rfl | (simp <;> omega))),rfl⟩
 ·rw[show kU r=false from decide_eq_false (by omega)]
  have t1:decide (r≤55295)=decide (r < 55296):=by apply decide_eq_decide.2;omega
  have t2:decide (57344≤r)=decide (57343 < r):=by apply decide_eq_decide.2;omega
  go_enter Try.func95,Try.ntmps95
  go_wp2
  go_ret
  exact⟨congrArg Ending.returned (congrArg Value.bool (by first | rfl | (simp <;> omega))),rfl⟩
 ·rw[show kU r=true from decide_eq_true (by omega)]
  have t1:decide (r≤55295)=decide (r < 55296):=by apply decide_eq_decide.2;omega
  have t2:decide (57344≤r)=decide (57343 < r):=by apply decide_eq_decide.2;omega
  go_enter Try.func95,Try.ntmps95
  go_wp2
  go_ret
  exact⟨congrArg Ending.returned (congrArg Value.bool (by first | rfl | (simp <;> omega))),rfl⟩
 ·rw[show kU r=false from decide_eq_false (by omega)]
  have t1:decide (r≤55295)=decide (r < 55296):=by apply decide_eq_decide.2;omega
  have t2:decide (57344≤r)=decide (57343 < r):=by apply decide_eq_decide.2;omega
  go_enter Try.func95,Try.ntmps95
  go_wp2
  go_ret
  exact⟨congrArg Ending.returned (congrArg Value.bool (by first | rfl | (simp <;> omega))),rfl⟩
 ·rw[show kU r=true from decide_eq_true (by omega)]
  have t1:decide (r≤55295)=decide (r < 55296):=by apply decide_eq_decide.2;omega
  have t2:decide (57344≤r)=decide (57343 < r):=by apply decide_eq_decide.2;omega
  go_enter Try.func95,Try.ntmps95
  go_wp2
  go_ret
  exact⟨congrArg Ending.returned (congrArg Value.bool (by first | rfl | (simp <;> omega))),rfl⟩
theorem ref_right (w:World) (S:Nat→Prop) (A:Option Addr) (n c:Nat) (rs:List (Int × Int)) (h:bO w S A n rs) :
  Calls Try.prog 74 #[.slice A n c] w fun e w'=>e=.returned (.bool (bq rs))∧∃q,w'=w.drewN q:=by
 have hn:=h.n
 obtain rfl:rs.length=n:=h.len
 by_cases hbig:5000 < rs.length
 ·have hv:bq rs=false:=by unfold bq;rw[decide_eq_false (by omega)];rfl
  rw[hv];clear hv
  go_enter Try.func74,Try.ntmps74
  go_wp2
  go_ret
  exact⟨rfl,0,rfl⟩
 have hv:bq rs=rightFrom (bP rs 0) (rs.drop 0):=by unfold bq;rw[decide_eq_true (by omega)];rfl
 have H:=ah h
 have HV:=ah hv
 clear h hv
 go_enter Try.func74,Try.ntmps74
 go_wp2_with fail
 go_loopg [3] rs.length (fun gk v3 wr=>∃k q:Nat,k+gk=rs.length∧v3=.int .i64 (k:Int)∧bq rs=rightFrom (bP rs k) (rs.drop k)∧(∀y,bP rs k=some y→0≤y.2∧y.2≤1114111)∧wr=w.drewN q)
 case atStart=>exact⟨0,0,by omega,rfl,HV.out,fun y h=>(by cases h),rfl⟩
 case round =>
  obtain⟨k,q,hk,rfl,hq,hpv,rfl⟩:=hrel
  have HQ:=ah hq
  have HPV:=ah hpv
  clear hq hpv
  by_cases hlt:k < rs.length
  ·obtain⟨ad,x,g,o,rfl,hx,i1,i2,hadd,c0,c1,-⟩:=H.out.at1 hlt
   have HX:=ah hx
   clear hx
   obtain⟨lo,hi⟩:=x
   simp only at c0 c1 i1 i2
   have hstep:=iE HX.out
   have b1:=i1.1
   have b2:=i1.2
   have b3:=i2.1
   have b4:=i2.2
   have kr:(k:Int) < (rs.length:Int):=by omega
   have hprev:∀j,k=j+1→∃y g' o',rs[j]?=some y∧ad.add (j*2)=⟨g',o',none⟩∧w.cell? ⟨g',o'+1,none⟩=some (.int .i64 y.2):=by
    rintro j rfl
    obtain⟨ad',y,g',o',e1,hy,_,h2,hadd',_,c1',_⟩:=H.out.at1 (k:=j) (by omega)
    injection e1 with e1
    subst e1
    exact⟨y,g',o',hy,hadd',c1'⟩
   have HP:=ah hprev
   clear hprev
   rcases hlo:kU lo with _ | _
   ·have hv:bq rs=false:=by rw[HQ.out,hstep];simp[cO,hlo]
    rcases hhi:kU hi with _ | _
    ·skip
     have HV1:=ah hv
     clear hv hstep
     go_wp2_with (go_at_call 95;refine(iT _ _ (by assumption)).mono ?_;rintro e w1 ⟨he,rfl⟩;simp only[hlo,hhi] at he;subst he)
     go_quiet (fail)
     go_wp2_with fail
     go_ret
     exact⟨congrArg Ending.returned (congrArg Value.bool HV1.out.symm),by first | exact⟨_,rfl⟩ | exact fV _ _ _⟩
    ·skip
     have HV1:=ah hv
     clear hv hstep
     go_wp2_with (go_at_call 95;refine(iT _ _ (by assumption)).mono ?_;rintro e w1 ⟨he,rfl⟩;simp only[hlo,hhi] at he;subst he)
     go_quiet (fail)
     go_wp2_with fail
     go_ret
     exact⟨congrArg Ending.returned (congrArg Value.bool HV1.out.symm),by first | exact⟨_,rfl⟩ | exact fV _ _ _⟩
   rcases hhi:kU hi with _ | _
   ·have hv:bq rs=false:=by rw[HQ.out,hstep];simp[cO,hhi]
    have HV1:=ah hv
    clear hv hstep
    go_wp2_with (go_at_call 95;refine(iT _ _ (by assumption)).mono ?_;rintro e w1 ⟨he,rfl⟩;simp only[hlo,hhi] at he;subst he)
    go_quiet (fail)
    go_wp2_with fail
    go_ret
    exact⟨congrArg Ending.returned (congrArg Value.bool HV1.out.symm),by first | exact⟨_,rfl⟩ | exact fV _ _ _⟩
   by_cases hle:hi < lo
   ·have hv:bq rs=false:=by rw[HQ.out,hstep];simp[cO];omega
    have HV1:=ah hv
    clear hv hstep
    go_wp2_with (go_at_call 95;refine(iT _ _ (by assumption)).mono ?_;rintro e w1 ⟨he,rfl⟩;simp only[hlo,hhi] at he;subst he)
    go_quiet (fail)
    go_wp2_with fail
    go_ret
    exact⟨congrArg Ending.returned (congrArg Value.bool HV1.out.symm),by first | exact⟨_,rfl⟩ | exact fV _ _ _⟩
   have hhb:0≤hi∧hi≤1114111:=by
    have:=of_decide_eq_true hhi
    omega
   by_cases hst:lo < 55296∧57343 < hi
   ·have hv:bq rs=false:=by rw[HQ.out,hstep];simp[cO];omega
    have hlo2:lo≤55295:=by omega
    have hhi2:57344≤hi:=by omega
    have hleb:decide (hi < lo)=false:=decide_eq_false hle
    have HV1:=ah hv
    clear hv hstep
    go_wp2_with (go_at_call 95;refine(iT _ _ (by assumption)).mono ?_;rintro e w1 ⟨he,rfl⟩;simp only[hlo,hhi] at he;subst he)
    go_quiet (fail)
    go_wp2_with fail
    go_ret
    exact⟨congrArg Ending.returned (congrArg Value.bool HV1.out.symm),by first | exact⟨_,rfl⟩ | exact fV _ _ _⟩
   have hleb:decide (hi < lo)=false:=decide_eq_false hle
   have HST:=ah hstep
   clear hstep
   go_upto_region 8 with(go_at_call 95;refine(iT _ _ (by assumption)).mono ?_;rintro e w1 ⟨he,rfl⟩;simp only[hlo,hhi] at he;subst he)
   go_cut [61] from 27 to 60 (fun v61 wc=>v61=.bool false∧∃q,wc=w.drewN q)
   case first =>
    by_cases hlo1:lo < 55296
    ·have hlo2:lo≤55295:=by omega
     have hhi2:decide (57344≤hi)=false:=decide_eq_false (by omega)
     go_quiet (fail)
     go_wp2_with fail
     go_meet
     exact⟨rfl,by first | exact⟨_,rfl⟩ | exact fV _ _ _⟩
    ·have hlo2:decide (lo≤55295)=false:=decide_eq_false (by omega)
     go_quiet (fail)
     go_wp2_with fail
     go_meet
     exact⟨rfl,by first | exact⟨_,rfl⟩ | exact fV _ _ _⟩
   case rest =>
    obtain⟨rfl,q1,rfl⟩:=hcut
    have hstep:=HST.out
    by_cases hk0:k=0
    ·subst hk0
     have hv:bq rs=rightFrom (bP rs (0+1)) (rs.drop (0+1)):=by
      rw[HQ.out,hstep,show cO (bP rs 0) (lo,hi)=true from ?_,Bool.true_and]
      simp[cO,gapB,bP,hlo,hhi]
      omega
     have hadd0:ad=⟨g,o,none⟩:=by rw[Nat.zero_mul,add_zero_R] at hadd;exact hadd
     subst hadd0
     clear hadd
     have HV1:=ah hv
     clear hv hstep
     go_wp2_with fail
     go_quiet (fail)
     go_wp2_with fail
     go_roundg (rs.length - (0+1))
     case measure=>omega
     case rel=>exact⟨0+1,_,by omega,by go_num,HV1.out,fun y h=>(by rw[show bP rs (0+1)=some (lo,hi) from HX.out] at h;injection h with h;subst h;exact hhb),by first | rfl | exact World.drewN_drewN _ _ _⟩
    ·obtain⟨j,hj⟩:∃j,k=j+1:=⟨k - 1,by omega⟩
     obtain⟨y,g',o',hy,hadd',c1'⟩:=HP.out j hj
     have hyb:=HPV.out y (by rw[hj];exact hy)
     have y1:=hyb.1
     have y2:=hyb.2
     have hkj:(k:Int) - 1=(j:Int):=by omega
     have hjl:(j:Int) < (rs.length:Int):=by omega
     have hwj:IntKind.i64.wrap (j:Int)=(j:Int):=by rw[IntKind.wrap_i64];omega
     have hpk:bP rs k=some y:=by rw[hj];exact hy
     have hk1:0 < k:=by omega
     have hodd:¬(lo=57344∧y.2=55295∧lo < y.2+2):=by omega
     by_cases hgap:lo < y.2+2
     ·have hv:bq rs=false:=by rw[HQ.out,hstep,hpk];simp[cO,gapB];omega
      by_cases h7:lo=57344
      ·have h7b:(lo==57344)=true:=by simpa using h7
       have h8b:(y.2==55295)=false:=beq_eq_false_iff_ne.2 (by omega)
       clear hj hy hyb hpk hodd h7
       have HV1:=ah hv
       clear hv hstep
       go_wp2_with fail
       go_quiet (fail)
       go_wp2_with fail
       go_ret
       exact⟨congrArg Ending.returned (congrArg Value.bool HV1.out.symm),by first | exact⟨_,rfl⟩ | exact fV _ _ _⟩
      ·have h7b:(lo==57344)=false:=by simpa using h7
       clear hj hy hyb hpk hodd
       have HV1:=ah hv
       clear hv hstep
       go_wp2_with fail
       go_quiet (fail)
       go_wp2_with fail
       go_ret
       exact⟨congrArg Ending.returned (congrArg Value.bool HV1.out.symm),by first | exact⟨_,rfl⟩ | exact fV _ _ _⟩
     ·have hv:bq rs=rightFrom (bP rs (k+1)) (rs.drop (k+1)):=by
       rw[HQ.out,hstep,show cO (bP rs k) (lo,hi)=true from ?_,Bool.true_and]
       rw[hpk]
       simp[cO,gapB,hlo,hhi]
       omega
      clear hj hy hyb hpk hodd
      have hgb:decide (lo < y.2+2)=false:=decide_eq_false hgap
      have HV1:=ah hv
      clear hv hstep
      go_wp2_with fail
      go_quiet (fail)
      go_wp2_with fail
      go_roundg (rs.length - (k+1))
      case measure=>omega
      case rel=>exact⟨k+1,_,by omega,by go_num,HV1.out,fun y h=>(by rw[show bP rs (k+1)=some (lo,hi) from HX.out] at h;injection h with h;subst h;exact hhb),by first | rfl | exact World.drewN_drewN _ _ _⟩
  ·have hkn:k=rs.length:=by omega
   have hv:bq rs=true:=by rw[HQ.out,hkn,List.drop_length];rfl
   have HV1:=ah hv
   clear hk hv
   subst hkn
   go_wp2
   go_ret
   exact⟨congrArg Ending.returned (congrArg Value.bool HV1.out.symm),q,rfl⟩
end Go.Proofs.Ytnkefclbchpafaa
