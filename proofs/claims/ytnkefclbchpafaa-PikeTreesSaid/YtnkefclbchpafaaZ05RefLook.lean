/-
  Insts, Bits, RefLook, put together.
-/
import Derived.Test.YtnkefclbchpafaaZMay
import Derived.Test.YtnkefclbchpafaaZ00Unf
import Derived.Laws.BitsAllLaws
import Derived.Laws.BitsLemmas
import Derived.Laws.EntriesVeiled

/-
  A program's instructions in memory: five cells each, the last one a slice of ranges.
-/
namespace Go.Proofs.Ytnkefclbchpafaa
set_option maxHeartbeats 16000000
open Go.RowKit
set_option linter.unusedVariables false
def dx (x:av) (B:Option Addr) (m c:Nat):Array Value:=#[.int .i64 x.op,.int .i64 x.x,.int .i64 x.y,.int .i64 x.arg,.slice B m c]
structure dH (w:World) (S:Nat→Prop) (A:Option Addr) (n:Nat) (is:List av):Prop where
 len:is.length=n
 at_:∀i x,is[i]?=some x→∃ad g o B m c,A=some ad∧ad.add (i*5)=⟨g,o,none⟩∧S g∧g < w.heap.size∧bO w S B m x.rs∧In64I x ∧
  ∀j v,(dx x B m c)[j]?=some v→w.cell? ⟨g,o+j,none⟩=some v
namespace dH
variable {w w' : World} {S F : Nat → Prop} {A : Option Addr} {n : Nat} {is : List av}
theorem upd (h:dH w S A n is) (hU:Upd F w w') (hF:∀k,S k→¬F k):dH w' S A n is :=
 ⟨h.len,fun i x hx=>by
  obtain⟨ad,g,o,B,m,c,e,e2,hs,hg,hr,hi,hc⟩:=h.at_ i x hx
  exact⟨ad,g,o,B,m,c,e,e2,hs,Nat.lt_of_lt_of_le hg hU.size,hr.upd hU hF,hi,fun j v hv=>(hU.cell (p:=⟨g,o+j,none⟩) hg (hF _ hs)).trans (hc j v hv)⟩⟩
theorem at1 (h:dH w S A n is) {i:Nat} (hi:i < n):∃ad g o x B m c,A=some ad∧is[i]?=some x∧ad.add (i*5)=⟨g,o,none⟩∧S g∧g < w.heap.size∧bO w S B m x.rs∧In64I x ∧
  w.cell? ⟨g,o,none⟩=some (.int .i64 x.op)∧w.cell? ⟨g,o+1,none⟩=some (.int .i64 x.x)∧w.cell? ⟨g,o+2,none⟩=some (.int .i64 x.y)∧w.cell? ⟨g,o+3,none⟩=some (.int .i64 x.arg)∧w.cell? ⟨g,o+4,none⟩=some (.slice B m c):=by
 have hl:i < is.length:=by rw[h.len];exact hi
 have hx:=List.getElem?_eq_getElem hl
 obtain⟨ad,g,o,B,m,c,e,e2,hs,hg,hr,hI,hc⟩:=h.at_ i _ hx
 exact⟨ad,g,o,_,B,m,c,e,hx,e2,hs,hg,hr,hI,hc 0 _ rfl,hc 1 _ rfl,hc 2 _ rfl,hc 3 _ rfl,hc 4 _ rfl⟩
end dH
theorem jd {is:List av} {start caps:Int} (h:¬(1≤is.length∧is.length≤20000∧0≤start∧start < is.length∧caps % 2=0∧2≤caps∧caps≤1002)):fu is start caps=false:=by
 unfold fu
 rw[decide_eq_false h]
 rfl
theorem checkB_in {is:List av} {start caps:Int} (h:1≤is.length∧is.length≤20000∧0≤start∧start < is.length∧caps % 2=0∧2≤caps∧caps≤1002):fu is start caps=(is.drop 0).all fun x=>bC x is.length caps:=by
 unfold fu
 rw[decide_eq_true h]
 rfl
theorem tmod_two (c:Int):c.tmod 2=0↔c % 2=0:=by
 rw[←Int.dvd_iff_tmod_eq_zero,←Int.dvd_iff_emod_eq_zero]
def errOf (b:Bool):Int:=if b then 0 else 90
theorem check_any (w:World) (S:Nat→Prop) (A:Option Addr) (n c:Nat) (is:List av) (start caps:Int) (h:dH w S A n is) (hs:In64 start) (hc:In64 caps) (hn:n≤140737488355328) :
  Calls Try.prog 29 #[.agg #[.slice A n c,.int .i64 start,.int .i64 caps]] w fun e w'=>e=.returned (.int .i64 (errOf (fu is start caps)))∧Upd Nob w w':=by
 obtain rfl:is.length=n:=h.len
 have C0:Cells (w.alloc (.cells #[.slice A is.length c,.int .i64 start,.int .i64 caps] 27)) w.heap.size 27 #[.slice A is.length c,.int .i64 start,.int .i64 caps]:=Cells.new _ _ _
 have hU:=(Upd.refl Nob w).alloc (.cells #[.slice A is.length c,.int .i64 start,.int .i64 caps] 27)
 have s1:=hs.1
 have s2:=hs.2
 have k1:=hc.1
 have k2:=hc.2
 have H:=ah (h.upd hU (fun _ _=>aj))
 clear h
 go_enter Try.func29,Try.ntmps29
 go_upto_region 1 with fail
 generalize w.alloc (.cells #[.slice A is.length c,.int .i64 start,.int .i64 caps] 27)=w2 at *
 have bs:=C0.lt
 generalize w.heap.size=b at *
 have HC:=ah C0
 have HU:=ah hU
 have e0:w2.cell? ⟨b,0,none⟩=some (.slice A is.length c):=C0.ak rfl
 have e1:w2.cell? ⟨b,0+1,none⟩=some (.int .i64 start):=C0.ak rfl
 have e2:w2.cell? ⟨b,0+2,none⟩=some (.int .i64 caps):=C0.ak rfl
 clear C0 hU
 by_cases h1:is.length < 1
 ·have hv:=ah (jd (is:=is) (start:=start) (caps:=caps) (by omega))
  go_wp2_with fail
  go_ret
  exact⟨congrArg Ending.returned (congrArg (Value.int .i64) (by rw[hv.out];rfl)),HU.out⟩
 by_cases h2:20000 < is.length
 ·have hv:=ah (jd (is:=is) (start:=start) (caps:=caps) (by omega))
  go_wp2_with fail
  go_ret
  exact⟨congrArg Ending.returned (congrArg (Value.int .i64) (by rw[hv.out];rfl)),HU.out⟩
 by_cases h3:start < 0
 ·have hv:=ah (jd (is:=is) (start:=start) (caps:=caps) (by omega))
  go_wp2_with fail
  go_ret
  exact⟨congrArg Ending.returned (congrArg (Value.int .i64) (by rw[hv.out];rfl)),HU.out⟩
 by_cases h4:(is.length:Int)≤start
 ·have hv:=ah (jd (is:=is) (start:=start) (caps:=caps) (by omega))
  go_wp2_with fail
  go_ret
  exact⟨congrArg Ending.returned (congrArg (Value.int .i64) (by rw[hv.out];rfl)),HU.out⟩
 have hmod:IntKind.i64.wrap (caps.tmod 2)=caps.tmod 2:=by
  have h1:caps.tmod 2 < 2:=Int.tmod_lt_of_pos caps (by decide)
  have h2:-2 < caps.tmod 2:=Int.lt_tmod_of_pos caps (by decide)
  rw[IntKind.wrap_i64]
  omega
 have hmod2:=tmod_two caps
 by_cases h5:caps.tmod 2=0
 rotate_left
 ·have hv:=ah (jd (is:=is) (start:=start) (caps:=caps) (by omega))
  have hb:(caps.tmod 2==0)=false:=by simpa using h5
  have hb2:(caps.tmod 2 != 0)=true:=by simpa using h5
  clear hmod2
  go_wp2_with fail
  go_ret
  exact⟨congrArg Ending.returned (congrArg (Value.int .i64) (by rw[hv.out];rfl)),HU.out⟩
 have hb:(caps.tmod 2==0)=true:=by simpa using h5
 have hb2:(caps.tmod 2 != 0)=false:=by simpa using h5
 by_cases h6:caps < 2
 ·have hv:=ah (jd (is:=is) (start:=start) (caps:=caps) (by omega))
  go_wp2_with fail
  go_ret
  exact⟨congrArg Ending.returned (congrArg (Value.int .i64) (by rw[hv.out];rfl)),HU.out⟩
 by_cases h7:1002 < caps
 ·have hv:=ah (jd (is:=is) (start:=start) (caps:=caps) (by omega))
  go_wp2_with fail
  go_ret
  exact⟨congrArg Ending.returned (congrArg (Value.int .i64) (by rw[hv.out];rfl)),HU.out⟩
 have hv:=checkB_in (is:=is) (start:=start) (caps:=caps) (by omega)
 have HV:=ah hv
 clear hv hmod2
 go_wp2_with fail
 go_loopg [45] is.length (fun gk v45 wr=>∃k:Nat,k+gk=is.length∧v45=.int .i64 (k:Int)∧fu is start caps=((is.drop k).all fun x=>bC x is.length caps)∧Upd Nob w2 wr)
 case atStart=>exact⟨0,by omega,rfl,HV.out,Upd.refl _ _⟩
 case round =>
  obtain⟨k,hk,rfl,hq,hU⟩:=hrel
  have HQ:=ah hq
  clear hq
  by_cases hlt:k < is.length
  ·obtain⟨ad,g,o,x,B,m,c',rfl,hx,hadd,-,hg,hR,hI,c0,c1,c2,c3,c4⟩:=(H.out.upd hU (fun _ _=>aj)).at1 hlt
   have hstep:=all_drop (fun x=>bC x is.length caps) hx
   obtain⟨op,xx,yy,arg,rs⟩:=x
   simp only at c0 c1 c2 c3 hR hI
   have HX:=ah hx
   have HS:=ah hstep
   have HR:=ah hR
   have HI:=ah hI
   clear hx hstep hR hI
   have C2:Cells (wr.alloc (.cells #[.int .i64 op,.int .i64 xx,.int .i64 yy,.int .i64 arg,.slice B m c'] 64)) wr.heap.size 64 #[.int .i64 op,.int .i64 xx,.int .i64 yy,.int .i64 arg,.slice B m c']:=Cells.new _ _ _
   have hU1:=(Upd.refl Nob wr).alloc (.cells #[.int .i64 op,.int .i64 xx,.int .i64 yy,.int .i64 arg,.slice B m c'] 64)
   have hU2:=hU.alloc (.cells #[.int .i64 op,.int .i64 xx,.int .i64 yy,.int .i64 arg,.slice B m c'] 64)
   go_upto_region 7 with fail
   generalize wr.alloc (.cells #[.int .i64 op,.int .i64 xx,.int .i64 yy,.int .i64 arg,.slice B m c'] 64)=w4 at *
   generalize wr.heap.size=xb at *
   have l0:w4.cell? ⟨xb,0,none⟩=some (.int .i64 op):=C2.ak rfl
   have l1:w4.cell? ⟨xb,0+1,none⟩=some (.int .i64 xx):=C2.ak rfl
   have l2:w4.cell? ⟨xb,0+2,none⟩=some (.int .i64 yy):=C2.ak rfl
   have l3:w4.cell? ⟨xb,0+3,none⟩=some (.int .i64 arg):=C2.ak rfl
   have l4:w4.cell? ⟨xb,0+4,none⟩=some (.slice B m c'):=C2.ak rfl
   have b2:w4.cell? ⟨b,0+2,none⟩=some (.int .i64 caps):=(HC.out.upd hU2 aj).ak rfl
   have HU2:=ah hU2
   have HR2:=ah (HR.out.upd hU1 (fun _ _=>aj))
   clear C2 c0 c1 c2 c3 c4 hadd hU hU1 hU2 hg
   rcases hm:bC ⟨op,xx,yy,arg,rs⟩ is.length caps with _ | _
   ·have hv:fu is start caps=false:=by rw[HQ.out,HS.out,hm];rfl
    have HV1:=ah hv
    clear hv
    go_wp2_with (go_at_call 47;refine(may_any _ S op xx yy arg rs HI.out B m c' HR2.out is.length caps).mono ?_;rintro e w5 ⟨he,hU5⟩;rw[hm] at he;subst he)
    go_ret
    exact⟨congrArg Ending.returned (congrArg (Value.int .i64) (by rw[HV1.out];rfl)),HU.out.trans (HU2.out.trans hU5 (fun _ _ h=>h)) (fun _ _ h=>h)⟩
   ·have hv:fu is start caps=((is.drop (k+1)).all fun x=>bC x is.length caps):=by rw[HQ.out,HS.out,hm];rfl
    have HV1:=ah hv
    clear hv
    go_wp2_with (go_at_call 47;refine(may_any _ S op xx yy arg rs HI.out B m c' HR2.out is.length caps).mono ?_;rintro e w5 ⟨he,hU5⟩;rw[hm] at he;subst he)
    go_roundg (is.length - (k+1))
    case measure=>omega
    case rel=>exact⟨k+1,by omega,by go_num,HV1.out,HU2.out.trans hU5 (fun _ _ h=>h)⟩
  ·have hkn:k=is.length:=by omega
   have hv:fu is start caps=true:=by rw[HQ.out,hkn,List.drop_length];rfl
   have HV1:=ah hv
   clear hk hv
   subst hkn
   go_wp2_with fail
   go_ret
   exact⟨congrArg Ending.returned (congrArg (Value.int .i64) (by rw[HV1.out];rfl)),HU.out.trans hU (fun _ _ h=>h)⟩
end Go.Proofs.Ytnkefclbchpafaa

/-
  Plain facts on the bits of an int: one bit, and, or, andNot with a power of two.
-/
namespace Go.Proofs.Ytnkefclbchpafaa
open Go.RowKit
set_option linter.unusedVariables false
theorem ofInt_nat (a:Nat) (ha:a < 9223372036854775808):(BitVec.ofInt 64 (a:Int)).toNat=a:=by
 rw[BitVec.ofInt_natCast,BitVec.toNat_ofNat];exact Nat.mod_eq_of_lt (by omega)
theorem i64_and1 (n:Int):bits .and .i64 n 1=n % 2:=by
 have h3:(BitVec.ofInt 64 1).toNat=2 ^ 1 - 1:=by decide
 have key:(BitVec.ofInt 64 n &&& BitVec.ofInt 64 1).toNat=(n % ((2 ^ 64:Nat):Int)).toNat % 2 ^ 1:=by
  rw[BitVec.toNat_and,BitVec.toNat_ofInt,h3,Nat.and_two_pow_sub_one_eq_mod]
 show IntKind.i64.wrap ((BitVec.ofInt 64 n &&& BitVec.ofInt 64 1).toNat:Nat)=n % 2
 rw[key,IntKind.wrap_i64]
 omega
def bitAt (x:Int) (k:Nat):Bool:=(x / 2 ^ k) % 2==1
theorem getLsb_ofInt (x:Int) (k:Nat) (hk:k < 64):(BitVec.ofInt 64 x).getLsbD k=bitAt x k:=by
 have hp:(0:Int) < 2 ^ k:=Int.pow_pos (by decide)
 have e64:(18446744073709551616:Int)=2 ^ k*(2 ^ (63 - k)*2):=by
  rw[←Int.mul_assoc,←Int.pow_add,←Int.pow_succ]
  have h64:(k+(63 - k)).succ=64:=by omega
  rw[h64]
  decide
 have hm:((x % ((2 ^ 64:Nat):Int)).toNat:Int)=x % 18446744073709551616:=by
  have:((2 ^ 64:Nat):Int)=18446744073709551616:=by decide
  rw[this];omega
 unfold BitVec.getLsbD bitAt
 rw[BitVec.toNat_ofInt,Nat.testBit_eq_decide_div_mod_eq]
 have key:((x % 18446744073709551616) / 2 ^ k) % 2=(x / 2 ^ k) % 2:=by
  have hx:x=x % 18446744073709551616+2 ^ k*(2 ^ (63 - k)*2*(x / 18446744073709551616)):=by
   have:=Int.emod_add_mul_ediv x 18446744073709551616
   rw[←Int.mul_assoc,←e64]
   omega
  have h2:x / 2 ^ k=(x % 18446744073709551616) / 2 ^ k+2 ^ (63 - k)*2*(x / 18446744073709551616):=by
   conv=>lhs;rw[hx]
   rw[Int.add_mul_ediv_left _ _ (by omega)]
  rw[h2]
  have h3:2 ^ (63 - k)*2*(x / 18446744073709551616)=2*(2 ^ (63 - k)*(x / 18446744073709551616)):=by
   rw[Int.mul_comm (2 ^ (63 - k)) 2,Int.mul_assoc]
  rw[h3]
  omega
 rw[←key,←hm]
 generalize (x % ((2 ^ 64:Nat):Int)).toNat=m
 have:((m:Int) / 2 ^ k) % 2=((m / 2 ^ k % 2:Nat):Int):=by simp
 rw[this]
 rw[Bool.eq_iff_iff]
 simp
 omega
end Go.Proofs.Ytnkefclbchpafaa

/-
  What holds at a place, in plain words; the walks of heronref02.At, Holds.
-/
namespace Go.Proofs.Ytnkefclbchpafaa
set_option maxHeartbeats 16000000
open Go.RowKit
set_option linter.unusedVariables false
def fE (x:Int):Bool:=decide (97≤x∧x≤122∨65≤x∧x≤90∨48≤x∧x≤57∨x=95)
def gu (i:Nat):Bool:=decide (i=0)
def lastB (xs:List Int) (i:Nat):Bool:=decide (i=xs.length)
def ig (xs:List Int) (i:Nat):Bool:=decide (i=0∨xs[i - 1]?=some 10)
def endB (xs:List Int) (i:Nat):Bool:=decide (i=xs.length∨xs[i]?=some 10)
def kR (xs:List Int) (i:Nat):Bool:=!decide (i=0) && ((xs[i - 1]?).map fE).getD false
def eP (xs:List Int) (i:Nat):Bool:=((xs[i]?).map fE).getD false
def wedgeB (xs:List Int) (i:Nat):Bool:=kR xs i != eP xs i
def flag (xs:List Int) (i:Nat):Nat→Bool
 | 0=>gu i
 | 1=>lastB xs i
 | 2=>ig xs i
 | 3=>endB xs i
 | 4=>wedgeB xs i
 | _=>!wedgeB xs i
def fI (b:Bool) (v:Int):Int:=if b=true then v else 0
def part (xs:List Int) (i:Nat):Nat→Int
 | 0=>0
 | k+1=>part xs i k+fI (flag xs i k) (2 ^ k)
def kP (xs:List Int) (p:Int):Int:=if 0≤p∧p≤xs.length then part xs p.toNat 6 else 0
theorem eT (xs:List Int) (i:Nat):∀k,0≤part xs i k∧part xs i k < 2 ^ k
 | 0=>by simp[part]
 | k+1=>by
  have:=eT xs i k
  have h2:(2:Int) ^ (k+1)=2 ^ k*2:=Int.pow_succ 2 k
  have h0:(0:Int) < 2 ^ k:=Int.pow_pos (by decide)
  unfold part fI
  split <;> omega
theorem eF {a b:Bool} (h:a=b):Ending.returned (.bool a)=.returned (.bool b):=by rw[h]
theorem ret_int {k:IntKind} {a b:Int} (h:a=b):Ending.returned (.int k a)=.returned (.int k b):=by rw[h]
structure dB (w:World) (S:Nat→Prop) (A:Option Addr) (n:Nat) (xs:List Int):Prop where
 r:Reads w S 1 A n (bn xs)
 i:∀x∈xs,In64 x
 n:n≤17592186044416
theorem dB.len {w:World} {S:Nat→Prop} {A:Option Addr} {n:Nat} {xs:List Int} (h:dB w S A n xs):xs.length=n:=by have:=h.r.1;simpa [bn] using this
theorem dB.upd {w w':World} {S F:Nat→Prop} {A:Option Addr} {n:Nat} {xs:List Int} (h:dB w S A n xs) (hU:Upd F w w') (hF:∀k,S k→¬F k):dB w' S A n xs:=⟨h.r.upd hU hF,h.i,h.n⟩
theorem dB.at_ {w:World} {S:Nat→Prop} {A:Option Addr} {n k:Nat} {xs:List Int} (h:dB w S A n xs) (hk:k < n) :
  ∃ad x,A=some ad∧xs[k]?=some x∧In64 x∧∀W,Upd Nob w W→W.cell? (ad.add k)=some (.int .i64 x):=by
 obtain⟨ad,x,rfl,hx,hc⟩:=h.r.int1 hk
 refine⟨ad,x,rfl,hx,h.i x (List.mem_of_getElem? hx),fun W hW=>?_⟩
 obtain⟨ad',x',e1,e2,h2⟩:=(h.r.upd hW (fun _ _=>aj)).int1 hk
 injection e1 with e1
 rw[hx] at e2
 injection e2 with e2
 subst e1;subst e2
 exact h2
def cZ (x y:Int):Bool:=bits .andNot .i64 x y==0
theorem holds_iff (x y:Int):cZ x y=true↔∀k,k < 64→bitAt x k=true→bitAt y k=true:=by
 have e:bits .andNot .i64 x y=IntKind.i64.wrap ((BitVec.ofInt 64 x &&& ~~~ BitVec.ofInt 64 y).toNat:Int):=rfl
 have h0:cZ x y=true↔(BitVec.ofInt 64 x &&& ~~~ BitVec.ofInt 64 y)=0#64:=by
  unfold cZ
  rw[e,IntKind.wrap_i64]
  have hlt:=(BitVec.ofInt 64 x &&& ~~~ BitVec.ofInt 64 y).isLt
  rw[←BitVec.toNat_inj]
  simp only[beq_iff_eq]
  generalize (BitVec.ofInt 64 x &&& ~~~ BitVec.ofInt 64 y).toNat=m at *
  simp
  omega
 rw[h0]
 constructor
 ·intro h k hk hx
  have:=congrArg (fun b:BitVec 64=>b.getLsbD k) h
  simp only[BitVec.getLsbD_and,BitVec.getLsbD_not,getLsb_ofInt _ _ hk,hx,Bool.true_and,hk,decide_true] at this
  simpa using this
 ·intro h
  apply BitVec.eq_of_getLsbD_eq
  intro k hk
  simp only[BitVec.getLsbD_and,BitVec.getLsbD_not,getLsb_ofInt _ _ hk,hk,decide_true,Bool.true_and]
  cases hx:bitAt x k
  ·simp
  ·simp[h k hk hx]
theorem refWord_yes (x:Int) (w:World) (h:fE x=true) (hx:In64 x):Calls Try.prog 69 #[.int .i64 x] w fun e w'=>e=.returned (.bool true)∧w=w':=by
 have h':97≤x∧x≤122∨65≤x∧x≤90∨48≤x∧x≤57∨x=95:=by simpa [fE] using h
 clear h
 obtain⟨hx1,hx2⟩:=hx
 rcases h' with⟨h1,h2⟩ | ⟨h1,h2⟩ | ⟨h1,h2⟩ | rfl
 all_goals
  go_enter Try.func69,Try.ntmps69
  go_wp2
  go_ret
  exact⟨rfl,rfl⟩
theorem refWord_no (x:Int) (w:World) (h:fE x=false) (hx:In64 x):Calls Try.prog 69 #[.int .i64 x] w fun e w'=>e=.returned (.bool false)∧w=w':=by
 have h':¬(97≤x∧x≤122∨65≤x∧x≤90∨48≤x∧x≤57∨x=95):=by simpa [fE] using h
 clear h
 obtain⟨hx1,hx2⟩:=hx
 rcases(by omega:x < 48∨(57 < x∧x < 65)∨(90 < x∧x < 95)∨(95 < x∧x < 97)∨122 < x) with h1 | ⟨h1,h2⟩ | ⟨h1,h2⟩ | ⟨h1,h2⟩ | h1
 all_goals
  clear h'
  have h9:(x==95)=false:=by simp;omega
  go_enter Try.func69,Try.ntmps69
  go_wp2
  go_ret
  refine⟨eF ?_,rfl⟩
  first | rfl | (simp;omega)
theorem refWord (x:Int) (w:World) (hx:In64 x):Calls Try.prog 69 #[.int .i64 x] w fun e w'=>e=.returned (.bool (fE x))∧w=w':=by
 cases h:fE x
 ·exact refWord_no x w h hx
 ·exact refWord_yes x w h hx
theorem part6 (xs:List Int) (i:Nat):part xs i 6=fI (gu i) 1+fI (ig xs i) 4+(fI (lastB xs i) 2+fI (endB xs i) 8)+(if wedgeB xs i=true then 16 else 32):=by
 have h:∀b:Bool,fI b 16+fI (!b) 32=if b=true then 16 else 32:=by intro b;cases b <;> rfl
 have e:part xs i 6=((((((0+fI (gu i) 1)+fI (lastB xs i) 2)+fI (ig xs i) 4)+fI (endB xs i) 8)+fI (wedgeB xs i) 16)+fI (!wedgeB xs i) 32):=rfl
 rw[e,←h]
 omega
theorem bitv_bd (b:Bool) (v:Int) (hv:0≤v):0≤fI b v∧fI b v≤v:=by unfold fI;split <;> omega
theorem refAt_in (w:World) (S:Nat→Prop) (A:Option Addr) (n c i:Nat) (xs:List Int) (hx:dB w S A n xs) (hi:i≤n) :
  Calls Try.prog 46 #[.slice A n c,.int .i64 (i:Int)] w fun e w'=>e=.returned (.int .i64 (part xs i 6))∧w=w':=by
 have hm:=hx.n
 have hl:=hx.len
 go_enter Try.func46,Try.ntmps46
 go_upto_if 17 with fail
 go_cut [5,6] (fun v5 v6 wc=>w=wc∧v5=.int .i64 (fI (gu i) 1+fI (ig xs i) 4)∧v6=.bool (kR xs i))
 case first =>
  by_cases h0:i=0
  ·subst h0
   go_wp2_with fail
   go_meet
   exact⟨rfl,rfl,rfl⟩
  ·obtain⟨j,rfl⟩:∃j,i=j+1:=⟨i - 1,by omega⟩
   have hq:gu (j+1)=false:=by simp[gu]
   obtain⟨ad,x,rfl,hxk,hxi,hxc⟩:=hx.at_ (k:=j) (by omega)
   have ha:kR xs (j+1)=fE x:=by simp[kR,hxk]
   have hc:=hxc w (Upd.refl _ _)
   have hne:(((j:Int)+1)==0)=false:=by simp;omega
   have HA:=ah ha
   have HQ:=ah hq
   have HX:=ah hxk
   clear h0 ha hq hxk hxc hx
   by_cases h10:x=10
   ·have hb:ig xs (j+1)=true:=by unfold ig;simp[HX.out,h10]
    have HB:=ah hb
    clear hb
    subst h10
    go_wp2_with (go_at_call 69;refine(refWord 10 w hxi).mono ?_;rintro e w' ⟨rfl,rfl⟩)
    go_meet
    exact⟨rfl,by rw[HQ.out,HB.out];rfl,by rw[HA.out]⟩
   ·have hb:ig xs (j+1)=false:=by unfold ig;simp[HX.out,h10]
    have HB:=ah hb
    clear hb
    have h10':(x==10)=false:=by simpa using h10
    go_wp2_with (go_at_call 69;refine(refWord x w hxi).mono ?_;rintro e w' ⟨rfl,rfl⟩)
    go_meet
    exact⟨rfl,by rw[HQ.out,HB.out];rfl,by rw[HA.out]⟩
 case rest =>
  obtain⟨rfl,rfl,rfl⟩:=hcut
  have b1:=bitv_bd (gu i) 1 (by omega)
  have b2:=bitv_bd (ig xs i) 4 (by omega)
  generalize hs1:fI (gu i) 1+fI (ig xs i) 4=s1
  have HS1:=ah hs1
  have b3:0≤s1∧s1≤5:=by omega
  clear hs1 b1 b2
  go_upto_if 38 with fail
  go_cut [5,7] (fun v5 v7 wc=>w=wc∧v5=.int .i64 (s1+(fI (lastB xs i) 2+fI (endB xs i) 8))∧v7=.bool (eP xs i))
  case first =>
   by_cases h0:i=n
   ·have hq:lastB xs i=true:=by simp[lastB,hl,h0]
    have he:endB xs i=true:=by simp[endB,hl,h0]
    have hb:eP xs i=false:=by
     have:xs[i]?=none:=List.getElem?_eq_none (by omega)
     simp[eP,this]
    have HQ:=ah hq
    have HE:=ah he
    have HB:=ah hb
    clear hq he hb hx
    subst h0
    go_wp2_with fail
    go_meet
    exact⟨rfl,by rw[HQ.out,HE.out];simp[fI];omega,by rw[HB.out]⟩
   ·have hq:lastB xs i=false:=by simp[lastB,hl,h0]
    obtain⟨ad,x,rfl,hxk,hxi,hxc⟩:=hx.at_ (k:=i) (by omega)
    have ha:eP xs i=fE x:=by simp[eP,hxk]
    have hc:=hxc w (Upd.refl _ _)
    have hne:((i:Int)==(n:Int))=false:=by simp;omega
    have HA:=ah ha
    have HQ:=ah hq
    have HX:=ah hxk
    clear ha hq hxk hxc hx
    by_cases h10:x=10
    ·have hb:endB xs i=true:=by unfold endB;simp[HX.out,h10]
     have HB:=ah hb
     clear hb
     subst h10
     go_wp2_with (go_at_call 69;refine(refWord 10 w hxi).mono ?_;rintro e w' ⟨rfl,rfl⟩)
     go_meet
     exact⟨rfl,by rw[HQ.out,HB.out];simp[fI],by rw[HA.out]⟩
    ·have hb:endB xs i=false:=by unfold endB;simp[HX.out,h10,hl,h0]
     have HB:=ah hb
     clear hb
     have h10':(x==10)=false:=by simpa using h10
     go_wp2_with (go_at_call 69;refine(refWord x w hxi).mono ?_;rintro e w' ⟨rfl,rfl⟩)
     go_meet
     exact⟨rfl,by rw[HQ.out,HB.out];simp[fI],by rw[HA.out]⟩
  case rest =>
   obtain⟨rfl,rfl,rfl⟩:=hcut
   have b1:=bitv_bd (lastB xs i) 2 (by omega)
   have b2:=bitv_bd (endB xs i) 8 (by omega)
   have he:wedgeB xs i=(kR xs i != eP xs i):=rfl
   have hp:=part6 xs i
   rw[HS1.out] at hp
   generalize hs2:fI (lastB xs i) 2+fI (endB xs i) 8=s2 at *
   rw[he] at hp
   have HP:=ah hp
   have b4:0≤s2∧s2≤10:=by omega
   clear hs2 b1 b2 he hp hx
   generalize kR xs i=a at *
   generalize eP xs i=b at *
   cases a <;> cases b
   all_goals
    go_wp2_with fail
    go_ret
    exact⟨ret_int (by rw[HP.out];simp;try omega),rfl⟩
theorem bit_cases (x:Int) (k:Nat):(bitAt x k=true∧(x / 2 ^ k) % 2=1)∨(bitAt x k=false∧(x / 2 ^ k) % 2=0):=by
 unfold bitAt
 rcases(by omega:(x / 2 ^ k) % 2=1∨(x / 2 ^ k) % 2=0) with h | h <;> simp[h]
theorem refHolds_any (w:World) (x y:Int) (hx:In64 x) (hy:In64 y):Calls Try.prog 56 #[.int .i64 x,.int .i64 y] w fun e w'=>e=.returned (.bool (cZ x y))∧w=w':=by
 have hh:=holds_iff x y
 have HH:=ah hh
 clear hh
 go_enter Try.func56,Try.ntmps56
 go_wp2
 go_loopg [5] 64 (fun gk v5 wr=>∃k:Nat,k+gk=64∧v5=.int .i64 (k:Int)∧(∀j,j < k→bitAt x j=true→bitAt y j=true)∧w=wr)
 case atStart=>exact⟨0,rfl,rfl,fun j hj=>absurd hj (by omega),rfl⟩
 case round =>
  obtain⟨k,hk,rfl,hall,rfl⟩:=hrel
  have HA:=ah hall
  clear hall
  by_cases hlt:k < 64
  ·have hX:=i64_and1 (x / 2 ^ k)
   have hY:=i64_and1 (y / 2 ^ k)
   rcases bit_cases x k with⟨bx,ex⟩ | ⟨bx,ex⟩ <;> rcases bit_cases y k with⟨by_,ey⟩ | ⟨by_,ey⟩
   all_goals
    rw[ex] at hX
    rw[ey] at hY
    have HBX:=ah bx
    have HBY:=ah by_
    clear ex ey bx by_
    go_wp2
   ·go_roundg (64 - (k+1))
    case measure=>omega
    case rel =>
     refine⟨k+1,by omega,by go_num,fun j hj hb=>?_,rfl⟩
     rcases(by omega:j < k∨j=k) with h | rfl
     ·exact HA.out j h hb
     ·exact HBY.out
   ·go_ret
    refine⟨eF ?_,rfl⟩
    cases h:cZ x y
    ·rfl
    ·have:=HH.out.1 h k hlt HBX.out
     rw[HBY.out] at this
     cases this
   ·go_roundg (64 - (k+1))
    case measure=>omega
    case rel =>
     refine⟨k+1,by omega,by go_num,fun j hj hb=>?_,rfl⟩
     rcases(by omega:j < k∨j=k) with h | rfl
     ·exact HA.out j h hb
     ·exact HBY.out
   ·go_roundg (64 - (k+1))
    case measure=>omega
    case rel =>
     refine⟨k+1,by omega,by go_num,fun j hj hb=>?_,rfl⟩
     rcases(by omega:j < k∨j=k) with h | rfl
     ·exact HA.out j h hb
     ·rw[HBX.out] at hb;cases hb
  ·have hk64:k=64:=by omega
   subst hk64
   go_wp2
   go_ret
   refine⟨eF ?_,rfl⟩
   exact(HH.out.2 (fun j hj hb=>HA.out j hj hb)).symm
end Go.Proofs.Ytnkefclbchpafaa
