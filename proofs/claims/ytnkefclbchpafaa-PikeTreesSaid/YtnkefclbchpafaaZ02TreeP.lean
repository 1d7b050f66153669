/-
  Right, TreeP, put together.
-/
import Derived.Test.YtnkefclbchpafaaRows
import Derived.Test.YtnkefclbchpafaaZ00Unf
import Derived.Test.YtnkefclbchpafaaZ01PlainP
import Derived.WalkSpells
import Derived.WalkLawsBesides
import Derived.RegionTactic
import Derived.Deep.RegionLaw
import Derived.Deep.DeepCutAuto
import Derived.Deep.LoopGhost
import Derived.ChangeAlike
import Derived.BigQuiet
import Derived.Deep.QuietTactic
import Derived.Outline
import Derived.PlainAid
import Derived.Deep.RegionHeld3

/-
  Programs in memory; the walks of runes.Right.
-/
namespace Go.Proofs.Ytnkefclbchpafaa
set_option maxHeartbeats 16000000
open Go.RowKit
set_option linter.unusedVariables false
theorem ah {p:Prop} (h:p):Hid p:=h
def iF:List (Int × Int)→List Value
 | []=>[]
 | x::r=>.int .i64 x.1::.int .i64 x.2::iF r
theorem pairv_len (rs:List (Int × Int)):(iF rs).length=rs.length*2:=by
 induction rs with
 | nil=>rfl
 | cons x r ih=>simp[iF,ih];omega
theorem pairv_at:∀(rs:List (Int × Int)) (k:Nat) (x:Int × Int),rs[k]?=some x→(iF rs)[2*k]?=some (.int .i64 x.1)∧(iF rs)[2*k+1]?=some (.int .i64 x.2)
 | [],k,x,h=>by simp at h
 | y::r,0,x,h=>by simp at h;subst h;simp[iF]
 | y::r,k+1,x,h=>by
  have:=pairv_at r k x (by simpa using h)
  have e:2*(k+1)=2*k+1+1:=by omega
  rw[e]
  simp only[iF,List.getElem?_cons_succ]
  exact this
theorem spot_form {w:World} {ad:Addr} {u:Value} (h:w.cell? ad=some u):∃g o,ad=⟨g,o,none⟩:=by
 have hs:=World.cell?_spot h
 cases ad
 simp_all
theorem add_two {w:World} {ad:Addr} {k:Nat} {u v:Value} (h0:w.cell? (ad.add (2*k))=some u) (h1:w.cell? (ad.add (2*k+1))=some v) :
  ∃g o,ad.add (k*2)=⟨g,o,none⟩∧w.cell? ⟨g,o,none⟩=some u∧w.cell? ⟨g,o+1,none⟩=some v:=by
 obtain⟨g,o,e⟩:=spot_form h0
 refine⟨g,o,by rw[Nat.mul_comm];exact e,by rw[←e];exact h0,?_⟩
 rw[←h1,←add_add_,e,bX]
def In64s (rs:List (Int × Int)):Prop:=∀x∈rs,In64 x.1∧In64 x.2
structure bO (w:World) (S:Nat→Prop) (A:Option Addr) (n:Nat) (rs:List (Int × Int)):Prop where
 r:Reads w S 2 A n (iF rs)
 i:In64s rs
 n:n≤140737488355328
namespace bO
variable {w w' : World} {S F : Nat → Prop} {A : Option Addr} {n : Nat} {rs : List (Int × Int)}
theorem len (h:bO w S A n rs):rs.length=n:=by have:=h.r.1;rw[pairv_len] at this;omega
theorem upd (h:bO w S A n rs) (hU:Upd F w w') (hF:∀k,S k→¬F k):bO w' S A n rs:=⟨h.r.upd hU hF,h.i,h.n⟩
theorem at1 (h:bO w S A n rs) {k:Nat} (hk:k < n):∃ad x g o,A=some ad∧rs[k]?=some x∧In64 x.1∧In64 x.2∧ad.add (k*2)=⟨g,o,none⟩∧w.cell? ⟨g,o,none⟩=some (.int .i64 x.1)∧w.cell? ⟨g,o+1,none⟩=some (.int .i64 x.2)∧S g:=by
 obtain⟨ad,e,hb,hs,hc⟩:=h.r.2 (by omega)
 have hl:k < rs.length:=by rw[h.len];exact hk
 have hx:=List.getElem?_eq_getElem hl
 obtain⟨p0,p1⟩:=pairv_at rs k _ hx
 have hm:=h.i _ (List.getElem_mem hl)
 obtain⟨g,o,e2,c0,c1⟩:=add_two (hc _ _ p0) (hc _ _ p1)
 refine⟨ad,_,g,o,e,hx,hm.1,hm.2,e2,c0,c1,?_⟩
 have:=congrArg Addr.block e2
 rw[add_block] at this
 change ad.block=g at this
 rw[←this]
 exact hs
end bO
theorem eX (w:World) (r:Int) (hr:In64 r):Calls Try.prog 88 #[.int .i64 r] w fun e w'=>e=.returned (.bool (kU r))∧w=w':=by
 have h1:=hr.1
 have h2:=hr.2
 rcases(by omega:r < 0∨1114111 < r∨(0≤r∧r < 55296)∨(55296≤r∧r≤57343)∨(57343 < r∧r≤1114111)) with h | h | ⟨h,h'⟩ | ⟨h,h'⟩ | ⟨h,h'⟩
 ·rw[show kU r=false from decide_eq_false (by omega)]
  go_enter Try.func88,Try.ntmps88
  go_wp2
  go_ret
  exact⟨rfl,rfl⟩
 ·rw[show kU r=false from decide_eq_false (by omega)]
  go_enter Try.func88,Try.ntmps88
  go_wp2
  go_ret
  exact⟨rfl,rfl⟩
 ·rw[show kU r=true from decide_eq_true (by omega)]
  go_enter Try.func88,Try.ntmps88
  go_wp2
  go_ret
  exact⟨rfl,rfl⟩
 ·rw[show kU r=false from decide_eq_false (by omega)]
  go_enter Try.func88,Try.ntmps88
  go_wp2
  go_ret
  exact⟨congrArg Ending.returned (congrArg Value.bool (by simp;omega)),rfl⟩
 ·rw[show kU r=true from decide_eq_true (by omega)]
  go_enter Try.func88,Try.ntmps88
  go_wp2
  go_ret
  exact⟨congrArg Ending.returned (congrArg Value.bool (by simp <;> omega)),rfl⟩
theorem right_any (w:World) (S:Nat→Prop) (A:Option Addr) (n c:Nat) (rs:List (Int × Int)) (h:bO w S A n rs) :
  Calls Try.prog 71 #[.slice A n c] w fun e w'=>e=.returned (.bool (bq rs))∧Upd Nob w w':=by
 have hn:=h.n
 obtain rfl:rs.length=n:=h.len
 by_cases hbig:5000 < rs.length
 ·have hv:bq rs=false:=by unfold bq;rw[decide_eq_false (by omega)];rfl
  rw[hv];clear hv
  go_enter Try.func71,Try.ntmps71
  go_wp2
  go_ret
  exact⟨rfl,Upd.refl _ _⟩
 have hv:bq rs=rightFrom (bP rs 0) (rs.drop 0):=by unfold bq;rw[decide_eq_true (by omega)];rfl
 have H:=ah h
 have HV:=ah hv
 clear h hv
 go_enter Try.func71,Try.ntmps71
 go_wp2_with fail
 go_loopg [10] rs.length (fun gk v10 wr=>∃k:Nat,k+gk=rs.length∧v10=.int .i64 (k:Int)∧bq rs=rightFrom (bP rs k) (rs.drop k)∧(∀y,bP rs k=some y→0≤y.2∧y.2≤1114111)∧Upd Nob w wr)
 case atStart=>exact⟨0,by omega,rfl,HV.out,fun y h=>(by cases h),Upd.refl _ _⟩
 case round =>
  obtain⟨k,hk,rfl,hq,hpv,hU⟩:=hrel
  have HQ:=ah hq
  have HPV:=ah hpv
  clear hq hpv
  by_cases hlt:k < rs.length
  ·obtain⟨ad,x,g,o,rfl,hx,i1,i2,hadd,c0,c1,-⟩:=(H.out.upd hU (fun _ _=>aj)).at1 hlt
   have HX:=ah hx
   clear hx
   obtain⟨lo,hi⟩:=x
   simp only at c0 c1 i1 i2
   have hstep:=iE HX.out
   have b1:=i1.1
   have b2:=i1.2
   have b3:=i2.1
   have b4:=i2.2
   have hprev:∀j,k=j+1→∃y g' o',rs[j]?=some y∧In64 y.2∧ad.add (j*2)=⟨g',o',none⟩∧wr.cell? ⟨g',o'+1,none⟩=some (.int .i64 y.2)∧g' < wr.heap.size:=by
    rintro j rfl
    obtain⟨ad',y,g',o',e1,hy,_,h2,hadd',_,c1',_⟩:=(H.out.upd hU (fun _ _=>aj)).at1 (k:=j) (by omega)
    injection e1 with e1
    subst e1
    exact⟨y,g',o',hy,h2,hadd',c1',World.block_lt_of_cell? wr _ c1'⟩
   have HP:=ah hprev
   clear hprev
   have C2:Cells (wr.alloc (.cells #[.int .i64 lo,.int .i64 hi] 66)) wr.heap.size 66 #[.int .i64 lo,.int .i64 hi]:=Cells.new _ _ _
   have hU2:=hU.alloc (.cells #[.int .i64 lo,.int .i64 hi] 66)
   have far:∀a:Addr,a.block < wr.heap.size→(wr.alloc (.cells #[.int .i64 lo,.int .i64 hi] 66)).cell? a=wr.cell? a:=fun a ha=>World.cell?_of_block (Below.heap_alloc _ _ _ ha)
   go_upto_region 6 with fail
   generalize wr.alloc (.cells #[.int .i64 lo,.int .i64 hi] 66)=w2 at *
   generalize wr.heap.size=xb at *
   have l0:w2.cell? ⟨xb,0,none⟩=some (.int .i64 lo):=C2.ak rfl
   have l1:w2.cell? ⟨xb,0+1,none⟩=some (.int .i64 hi):=C2.ak rfl
   clear C2 c0 c1 hadd
   rcases hlo:kU lo with _ | _
   ·have hv:bq rs=false:=by rw[HQ.out,hstep];simp[cO,hlo]
    go_wp2_with (go_at_call 88;refine(eX _ _ (by assumption)).mono ?_;rintro e w1 ⟨he,rfl⟩;simp only[hlo] at he;subst he)
    go_ret
    exact⟨congrArg Ending.returned (congrArg Value.bool hv.symm),hU2⟩
   rcases hhi:kU hi with _ | _
   ·have hv:bq rs=false:=by rw[HQ.out,hstep];simp[cO,hhi]
    go_wp2_with (go_at_call 88;refine(eX _ _ (by assumption)).mono ?_;rintro e w1 ⟨he,rfl⟩;simp only[hlo,hhi] at he;subst he)
    go_ret
    exact⟨congrArg Ending.returned (congrArg Value.bool hv.symm),hU2⟩
   by_cases hle:hi < lo
   ·have hv:bq rs=false:=by rw[HQ.out,hstep];simp[cO];omega
    go_wp2_with (go_at_call 88;refine(eX _ _ (by assumption)).mono ?_;rintro e w1 ⟨he,rfl⟩;simp only[hlo,hhi] at he;subst he)
    go_ret
    exact⟨congrArg Ending.returned (congrArg Value.bool hv.symm),hU2⟩
   have hhb:0≤hi∧hi≤1114111:=by
    have:=of_decide_eq_true hhi
    omega
   by_cases hlo1:lo < 55296
   ·by_cases hhi1:57343 < hi
    ·have hv:bq rs=false:=by rw[HQ.out,hstep];simp[cO];omega
     go_wp2_with (go_at_call 88;refine(eX _ _ (by assumption)).mono ?_;rintro e w1 ⟨he,rfl⟩;simp only[hlo,hhi] at he;subst he)
     go_ret
     exact⟨congrArg Ending.returned (congrArg Value.bool hv.symm),hU2⟩
    ·
     by_cases hk0:k=0
     ·subst hk0
      have hv:bq rs=rightFrom (bP rs (0+1)) (rs.drop (0+1)):=by
       rw[HQ.out,hstep,show cO (bP rs 0) (lo,hi)=true from ?_,Bool.true_and]
       simp[cO,gapB,bP,hlo,hhi]
       omega
      have HV1:=ah hv
      clear hv hstep
      go_wp2_with (go_at_call 88;refine(eX _ _ (by assumption)).mono ?_;rintro e w1 ⟨he,rfl⟩;simp only[hlo,hhi] at he;subst he)
      go_quiet (fail)
      go_wp2_with fail
      go_roundg (rs.length - (0+1))
      case measure=>omega
      case rel=>exact⟨0+1,by omega,by go_num,HV1.out,fun y h=>(by rw[show bP rs (0+1)=some (lo,hi) from HX.out] at h;injection h with h;subst h;exact hhb),hU2.drewN _⟩
     ·obtain⟨j,hj⟩:∃j,k=j+1:=⟨k - 1,by omega⟩
      obtain⟨y,g',o',hy,hy2,hadd',c1',hg'⟩:=HP.out j hj
      have hyb:=HPV.out y (by rw[hj];exact hy)
      have y1:=hyb.1
      have y2:=hyb.2
      have cy:w2.cell? ⟨g',o'+1,none⟩=some (.int .i64 y.2):=(far _ hg').trans c1'
      have hkj:(k:Int) - 1=(j:Int):=by omega
      have hjl:(j:Int) < (rs.length:Int):=by omega
      have hwj:IntKind.i64.wrap (j:Int)=(j:Int):=by rw[IntKind.wrap_i64];omega
      have hpk:bP rs k=some y:=by rw[hj];exact hy
      have hk1:0 < k:=by omega
      by_cases hgap:lo≤y.2+1
      ·have hv:bq rs=false:=by rw[HQ.out,hstep,hpk];simp[cO,gapB];omega
       have HV1:=ah hv
       clear hv hstep hpk c1' hy hyb hj far
       go_wp2_with (go_at_call 88;refine(eX _ _ (by assumption)).mono ?_;rintro e w1 ⟨he,rfl⟩;simp only[hlo,hhi] at he;subst he)
       go_quiet (fail)
       go_wp2_with fail
       go_ret
       exact⟨congrArg Ending.returned (congrArg Value.bool HV1.out.symm),hU2.drewN _⟩
      ·have hv:bq rs=rightFrom (bP rs (k+1)) (rs.drop (k+1)):=by
        rw[HQ.out,hstep,show cO (bP rs k) (lo,hi)=true from ?_,Bool.true_and]
        rw[hpk]
        simp[cO,gapB,hlo,hhi]
        omega
       have HV1:=ah hv
       clear hv hstep hpk c1' hy hyb hj far
       go_wp2_with (go_at_call 88;refine(eX _ _ (by assumption)).mono ?_;rintro e w1 ⟨he,rfl⟩;simp only[hlo,hhi] at he;subst he)
       go_quiet (fail)
       go_wp2_with fail
       go_roundg (rs.length - (k+1))
       case measure=>omega
       case rel=>exact⟨k+1,by omega,by go_num,HV1.out,fun y h=>(by rw[show bP rs (k+1)=some (lo,hi) from HX.out] at h;injection h with h;subst h;exact hhb),hU2.drewN _⟩
   ·
    by_cases hk0:k=0
    ·subst hk0
     have hv:bq rs=rightFrom (bP rs (0+1)) (rs.drop (0+1)):=by
      rw[HQ.out,hstep,show cO (bP rs 0) (lo,hi)=true from ?_,Bool.true_and]
      simp[cO,gapB,bP,hlo,hhi]
      omega
     have HV1:=ah hv
     clear hv hstep
     go_wp2_with (go_at_call 88;refine(eX _ _ (by assumption)).mono ?_;rintro e w1 ⟨he,rfl⟩;simp only[hlo,hhi] at he;subst he)
     go_quiet (fail)
     go_wp2_with fail
     go_roundg (rs.length - (0+1))
     case measure=>omega
     case rel=>exact⟨0+1,by omega,by go_num,HV1.out,fun y h=>(by rw[show bP rs (0+1)=some (lo,hi) from HX.out] at h;injection h with h;subst h;exact hhb),hU2.drewN _⟩
    ·obtain⟨j,hj⟩:∃j,k=j+1:=⟨k - 1,by omega⟩
     obtain⟨y,g',o',hy,hy2,hadd',c1',hg'⟩:=HP.out j hj
     have hyb:=HPV.out y (by rw[hj];exact hy)
     have y1:=hyb.1
     have y2:=hyb.2
     have cy:w2.cell? ⟨g',o'+1,none⟩=some (.int .i64 y.2):=(far _ hg').trans c1'
     have hkj:(k:Int) - 1=(j:Int):=by omega
     have hjl:(j:Int) < (rs.length:Int):=by omega
     have hwj:IntKind.i64.wrap (j:Int)=(j:Int):=by rw[IntKind.wrap_i64];omega
     have hpk:bP rs k=some y:=by rw[hj];exact hy
     have hk1:0 < k:=by omega
     by_cases hgap:lo≤y.2+1
     ·have hv:bq rs=false:=by rw[HQ.out,hstep,hpk];simp[cO,gapB];omega
      have HV1:=ah hv
      clear hv hstep hpk c1' hy hyb hj far
      go_wp2_with (go_at_call 88;refine(eX _ _ (by assumption)).mono ?_;rintro e w1 ⟨he,rfl⟩;simp only[hlo,hhi] at he;subst he)
      go_quiet (fail)
      go_wp2_with fail
      go_ret
      exact⟨congrArg Ending.returned (congrArg Value.bool HV1.out.symm),hU2.drewN _⟩
     ·have hv:bq rs=rightFrom (bP rs (k+1)) (rs.drop (k+1)):=by
       rw[HQ.out,hstep,show cO (bP rs k) (lo,hi)=true from ?_,Bool.true_and]
       rw[hpk]
       simp[cO,gapB,hlo,hhi]
       omega
      have HV1:=ah hv
      clear hv hstep hpk c1' hy hyb hj far
      go_wp2_with (go_at_call 88;refine(eX _ _ (by assumption)).mono ?_;rintro e w1 ⟨he,rfl⟩;simp only[hlo,hhi] at he;subst he)
      go_quiet (fail)
      go_wp2_with fail
      go_roundg (rs.length - (k+1))
      case measure=>omega
      case rel=>exact⟨k+1,by omega,by go_num,HV1.out,fun y h=>(by rw[show bP rs (k+1)=some (lo,hi) from HX.out] at h;injection h with h;subst h;exact hhb),hU2.drewN _⟩
  ·have hkn:k=rs.length:=by omega
   clear hk
   have hv:bq rs=true:=by rw[HQ.out,hkn,List.drop_length];rfl
   subst hkn
   go_wp2
   go_ret
   exact⟨congrArg Ending.returned (congrArg Value.bool hv.symm),hU⟩
end Go.Proofs.Ytnkefclbchpafaa

/-
  Trees, plain.
-/
namespace Go.Proofs.Ytnkefclbchpafaa
open Go.RowKit
set_option linter.unusedVariables false
inductive Tree where
 | mk (kind:Int) (rs:List (Int × Int)) (am:Int) (subs:List Tree) (mn mx:Int) (lz:Bool) (ix:Int) (nm:ByteArray)
namespace Tree
def kind:Tree→Int | .mk k ..=>k
def rs:Tree→List (Int × Int) | .mk _ r ..=>r
def am:Tree→Int | .mk _ _ a ..=>a
def subs:Tree→List Tree | .mk _ _ _ s ..=>s
def mn:Tree→Int | .mk _ _ _ _ m ..=>m
def mx:Tree→Int | .mk _ _ _ _ _ m ..=>m
def lz:Tree→Bool | .mk _ _ _ _ _ _ l ..=>l
def ix:Tree→Int | .mk _ _ _ _ _ _ _ i _=>i
def nm:Tree→ByteArray | .mk _ _ _ _ _ _ _ _ n=>n
end Tree
theorem Tree.sub_lt {t s:Tree} (h:s∈t.subs):SizeOf.sizeOf s < SizeOf.sizeOf t:=by
 obtain⟨k,r,a,l,m,x,z,i,n⟩:=t
 have:=List.sizeOf_lt_of_mem (show s∈l from h)
 simp
 omega
structure TreeOk (t:Tree):Prop where
 k:In64 t.kind
 a:In64 t.am
 m:In64 t.mn
 x:In64 t.mx
 i:In64 t.ix
 n:t.subs.length≤140737488355328
 s:t.nm.size≤140737488355328
def au (t:Tree) (RA:Option Addr) (rc:Nat) (SA:Option Addr) (sc:Nat):Array Value :=
 #[.int .i64 t.kind,.slice RA t.rs.length rc,.int .i64 t.am,.slice SA t.subs.length sc,.int .i64 t.mn,.int .i64 t.mx,.bool t.lz,.int .i64 t.ix,.string t.nm]
def aB (w:World) (S:Nat→Prop) (cs:Array Value) (t:Tree):Prop :=
 ∃RA rc SA sc,cs=au t RA rc SA sc∧bO w S RA t.rs.length t.rs∧TreeOk t ∧
  ∀i (h:i < t.subs.length),∃ad g o cs',SA=some ad∧ad.add (i*9)=⟨g,o,none⟩∧S g∧g < w.heap.size∧(∀j v,cs'[j]?=some v→w.cell? ⟨g,o+j,none⟩=some v)∧aB w S cs' t.subs[i]
termination_by SizeOf.sizeOf t
decreasing_by exact Tree.sub_lt (List.getElem_mem h)
theorem bO.weaken_ {w:World} {S S':Nat→Prop} {A:Option Addr} {n:Nat} {rs:List (Int × Int)} (h:bO w S A n rs) (hS:∀k,S k→S' k):bO w S' A n rs:=⟨h.r.weaken hS,h.i,h.n⟩
theorem aB.upd {F:Nat→Prop} {w w':World} {S S':Nat→Prop} (hU:Upd F w w') (hS:∀k,S k→S' k) (hF:∀k,S k→¬F k):∀(n:Nat) (t:Tree) (cs:Array Value),SizeOf.sizeOf t≤n→aB w S cs t→aB w' S' cs t
 | 0,t,cs,hn,h=>by obtain⟨k,r,a,l,m,x,z,i,nn⟩:=t;simp at hn
 | n+1,t,cs,hn,h=>by
  rw[aB] at h ⊢
  obtain⟨RA,rc,SA,sc,hc,hr,ho,hs⟩:=h
  refine⟨RA,rc,SA,sc,hc,(hr.upd hU hF).weaken_ hS,ho,fun i hi=>?_⟩
  obtain⟨ad,g,o,cs',h1,h2,h3,h4,h5,h6⟩:=hs i hi
  refine⟨ad,g,o,cs',h1,h2,hS g h3,Nat.lt_of_lt_of_le h4 hU.size,fun j v hv=>(hU.cell (p:=⟨g,o+j,none⟩) h4 (hF _ h3)).trans (h5 j v hv),?_⟩
  exact aB.upd hU hS hF n _ _ (by have:=Tree.sub_lt (List.getElem_mem hi);omega) h6
theorem aB.bA {F:Nat→Prop} {w w':World} {S:Nat→Prop} {cs:Array Value} {t:Tree} (h:aB w S cs t) (hU:Upd F w w') (hF:∀k,S k→¬F k):aB w' S cs t:=aB.upd hU (fun _ h=>h) hF _ t cs (Nat.le_refl _) h
theorem aB.weaken {w:World} {S S':Nat→Prop} {cs:Array Value} {t:Tree} (h:aB w S cs t) (hS:∀k,S k→S' k):aB w S' cs t:=aB.upd (Upd.refl Nob w) hS (fun _ _=>aj) _ t cs (Nat.le_refl _) h
theorem bO.lower_ {w:World} {S:Nat→Prop} {A:Option Addr} {n:Nat} {rs:List (Int × Int)} (h:bO w S A n rs):bO w (fun k=>k < w.heap.size) A n rs :=
 ⟨⟨h.r.1,fun hn=>by obtain⟨ad,e,hb,hs,hc⟩:=h.r.2 hn;exact⟨ad,e,hb,hb,hc⟩⟩,h.i,h.n⟩
theorem aB.lower_go {w:World} {S:Nat→Prop}:∀(n:Nat) (t:Tree) (cs:Array Value),SizeOf.sizeOf t≤n→aB w S cs t→aB w (fun k=>k < w.heap.size) cs t
 | 0,t,cs,hn,h=>by obtain⟨k,r,a,l,m,x,z,i,nn⟩:=t;simp at hn
 | n+1,t,cs,hn,h=>by
  rw[aB] at h ⊢
  obtain⟨RA,rc,SA,sc,hc,hr,ho,hs⟩:=h
  refine⟨RA,rc,SA,sc,hc,hr.lower_,ho,fun i hi=>?_⟩
  obtain⟨ad,g,o,cs',h1,h2,h3,h4,h5,h6⟩:=hs i hi
  exact⟨ad,g,o,cs',h1,h2,h4,h4,h5,aB.lower_go n _ _ (by have:=Tree.sub_lt (List.getElem_mem hi);omega) h6⟩
theorem aB.lower {w:World} {S:Nat→Prop} {cs:Array Value} {t:Tree} (h:aB w S cs t):aB w (fun k=>k < w.heap.size) cs t:=aB.lower_go _ t cs (Nat.le_refl _) h
theorem aB.top {w:World} {S:Nat→Prop} {cs:Array Value} {t:Tree} (h:aB w S cs t):∃RA rc SA sc,cs=au t RA rc SA sc∧bO w S RA t.rs.length t.rs∧TreeOk t ∧
  ∀i x,t.subs[i]?=some x→∃ad g o cs',SA=some ad∧ad.add (i*9)=⟨g,o,none⟩∧S g∧g < w.heap.size∧(∀j v,cs'[j]?=some v→w.cell? ⟨g,o+j,none⟩=some v)∧aB w S cs' x:=by
 rw[aB] at h
 obtain⟨RA,rc,SA,sc,hc,hr,ho,hs⟩:=h
 refine⟨RA,rc,SA,sc,hc,hr,ho,fun i x hx=>?_⟩
 obtain⟨hi,rfl⟩:=List.getElem?_eq_some_iff.1 hx
 exact hs i hi
theorem aB.of {w:World} {S:Nat→Prop} {t:Tree} {RA:Option Addr} {rc:Nat} {SA:Option Addr} {sc:Nat} (hr:bO w S RA t.rs.length t.rs) (ho:TreeOk t)
  (hs:∀i x,t.subs[i]?=some x→∃ad g o cs',SA=some ad∧ad.add (i*9)=⟨g,o,none⟩∧S g∧g < w.heap.size∧(∀j v,cs'[j]?=some v→w.cell? ⟨g,o+j,none⟩=some v)∧aB w S cs' x):aB w S (au t RA rc SA sc) t:=by
 rw[aB]
 exact⟨RA,rc,SA,sc,rfl,hr,ho,fun i hi=>hs i _ (List.getElem?_eq_getElem hi)⟩
theorem aB.open_ {w:World} {S:Nat→Prop} {t:Tree} {RA:Option Addr} {rc:Nat} {SA:Option Addr} {sc:Nat} (h:aB w S (au t RA rc SA sc) t):bO w S RA t.rs.length t.rs∧TreeOk t ∧
  ∀i x,t.subs[i]?=some x→∃ad g o cs',SA=some ad∧ad.add (i*9)=⟨g,o,none⟩∧S g∧g < w.heap.size∧(∀j v,cs'[j]?=some v→w.cell? ⟨g,o+j,none⟩=some v)∧aB w S cs' x:=by
 obtain⟨RA',rc',SA',sc',hc,hr,ho,hs⟩:=h.top
 simp only[au,Array.mk.injEq,List.cons.injEq,Value.slice.injEq,true_and,and_true] at hc
 obtain⟨⟨rfl,rfl⟩,rfl,rfl⟩:=hc
 exact⟨hr,ho,hs⟩
theorem aB.sub {w:World} {S:Nat→Prop} {t:Tree} {SA:Option Addr} (hs:∀i x,t.subs[i]?=some x→∃ad g o cs',SA=some ad∧ad.add (i*9)=⟨g,o,none⟩∧S g∧g < w.heap.size∧(∀j v,cs'[j]?=some v→w.cell? ⟨g,o+j,none⟩=some v)∧aB w S cs' x) {i:Nat} (hi:i < t.subs.length) :
  ∃ad g o x PA pc QA qc,SA=some ad∧ad.add (i*9)=⟨g,o,none⟩∧S g∧g < w.heap.size∧t.subs[i]?=some x∧aB w S (au x PA pc QA qc) x∧SizeOf.sizeOf x < SizeOf.sizeOf t∧(∀j v,(au x PA pc QA qc)[j]?=some v→w.cell? ⟨g,o+j,none⟩=some v):=by
 have hx:=List.getElem?_eq_getElem hi
 obtain⟨ad,g,o,cs',h1,h2,h3,h4,h5,h6⟩:=hs i _ hx
 obtain⟨PA,pc,QA,qc,rfl,_⟩:=h6.top
 exact⟨ad,g,o,_,PA,pc,QA,qc,h1,h2,h3,h4,hx,h6,Tree.sub_lt (List.getElem_mem hi),h5⟩
theorem bH {w:World} {g o:Nat} {t:Tree} {RA:Option Addr} {rc:Nat} {SA:Option Addr} {sc:Nat} (h:∀j v,(au t RA rc SA sc)[j]?=some v→w.cell? ⟨g,o+j,none⟩=some v) :
  w.cell? ⟨g,o,none⟩=some (.int .i64 t.kind)∧w.cell? ⟨g,o+1,none⟩=some (.slice RA t.rs.length rc)∧w.cell? ⟨g,o+2,none⟩=some (.int .i64 t.am)∧w.cell? ⟨g,o+3,none⟩=some (.slice SA t.subs.length sc)∧w.cell? ⟨g,o+4,none⟩=some (.int .i64 t.mn) ∧
  w.cell? ⟨g,o+5,none⟩=some (.int .i64 t.mx)∧w.cell? ⟨g,o+6,none⟩=some (.bool t.lz)∧w.cell? ⟨g,o+7,none⟩=some (.int .i64 t.ix)∧w.cell? ⟨g,o+8,none⟩=some (.string t.nm) :=
 ⟨h 0 _ rfl,h 1 _ rfl,h 2 _ rfl,h 3 _ rfl,h 4 _ rfl,h 5 _ rfl,h 6 _ rfl,h 7 _ rfl,h 8 _ rfl⟩
end Go.Proofs.Ytnkefclbchpafaa
