/-
  LkSpot, LkAt, StackP, put together.
-/
import Derived.Test.YtnkefclbchpafaaZ05RefLook
import Derived.Test.YtnkefclbchpafaaZ06RefRight
import Derived.Laws.BitsAllLaws
import Derived.Laws.EntriesVeiled
import Derived.Laws.BitsLemmas
import Derived.Test.YtnkefclbchpafaaZ10Greed

/-
  The walks of look's assertions, of Word, and of the row of assertions.
-/
namespace Go.Proofs.Ytnkefclbchpafaa
set_option maxHeartbeats 16000000
open Go.RowKit
set_option linter.unusedVariables false
theorem add_succ_ (a:Addr) (j:Nat):a.add (j+1)=⟨a.block,a.off+(j+1),none⟩:=by simp[Addr.add]
theorem word_yes (x:Int) (w:World) (h:fE x=true) (hx:In64 x):Calls Try.prog 98 #[.int .i64 x] w fun e w'=>e=.returned (.bool true)∧w=w':=by
 have h':97≤x∧x≤122∨65≤x∧x≤90∨48≤x∧x≤57∨x=95:=by simpa [fE] using h
 clear h
 obtain⟨hx1,hx2⟩:=hx
 rcases h' with⟨h1,h2⟩ | ⟨h1,h2⟩ | ⟨h1,h2⟩ | rfl
 all_goals
  go_enter Try.func98,Try.ntmps98
  go_wp2
  go_ret
  exact⟨rfl,rfl⟩
theorem word_no (x:Int) (w:World) (h:fE x=false) (hx:In64 x):Calls Try.prog 98 #[.int .i64 x] w fun e w'=>e=.returned (.bool false)∧w=w':=by
 have h':¬(97≤x∧x≤122∨65≤x∧x≤90∨48≤x∧x≤57∨x=95):=by simpa [fE] using h
 clear h
 obtain⟨hx1,hx2⟩:=hx
 rcases(by omega:x < 48∨(57 < x∧x < 65)∨(90 < x∧x < 95)∨(95 < x∧x < 97)∨122 < x) with h1 | ⟨h1,h2⟩ | ⟨h1,h2⟩ | ⟨h1,h2⟩ | h1
 all_goals
  clear h'
  have h9:(x==95)=false:=by simp;omega
  go_enter Try.func98,Try.ntmps98
  go_wp2
  go_ret
  refine⟨eF ?_,rfl⟩
  first | rfl | (simp;omega)
theorem word_any (x:Int) (w:World) (hx:In64 x):Calls Try.prog 98 #[.int .i64 x] w fun e w'=>e=.returned (.bool (fE x))∧w=w':=by
 cases h:fE x
 ·exact word_no x w h hx
 ·exact word_yes x w h hx
section
variable (w : World) (S : Nat → Prop) (A : Option Addr) (n c i : Nat) (xs : List Int)
theorem iZ (v:Value):Calls Try.prog 89 #[.agg #[v,.int .i64 (i:Int)]] w fun e w'=>e=.returned (.bool (gu i))∧Upd Nob w w':=by
 by_cases h:i=0
 ·subst h
  go_enter Try.func89,Try.ntmps89
  go_wp2
  go_ret
  exact⟨rfl,(Upd.refl _ _).alloc _⟩
 ·have hb:((i:Int)==0)=false:=by simp;omega
  have hf:gu i=false:=by simp[gu,h]
  have HF:=ah hf
  clear hf
  go_enter Try.func89,Try.ntmps89
  go_wp2
  go_ret
  exact⟨eF HF.out.symm,(Upd.refl _ _).alloc _⟩
theorem kC (hn:xs.length=n) (hi:i≤n) (hm:n≤17592186044416):Calls Try.prog 90 #[.agg #[.slice A n c,.int .i64 (i:Int)]] w fun e w'=>e=.returned (.bool (lastB xs i))∧Upd Nob w w':=by
 by_cases h:i=n
 ·have hf:lastB xs i=true:=by simp[lastB,hn,h]
  have HF:=ah hf
  clear hf
  subst h
  go_enter Try.func90,Try.ntmps90
  go_wp2
  go_ret
  exact⟨eF HF.out.symm,(Upd.refl _ _).alloc _⟩
 ·have hb:((i:Int)==(n:Int))=false:=by simp;omega
  have hf:lastB xs i=false:=by simp[lastB,hn,h]
  have HF:=ah hf
  clear hf
  go_enter Try.func90,Try.ntmps90
  go_wp2
  go_ret
  exact⟨eF HF.out.symm,(Upd.refl _ _).alloc _⟩
theorem begin_any (h:dB w S A n xs) (hi:i≤n):Calls Try.prog 91 #[.agg #[.slice A n c,.int .i64 (i:Int)]] w fun e w'=>e=.returned (.bool (ig xs i))∧Upd Nob w w':=by
 have hm:=h.n
 have hl:=h.len
 by_cases h0:i=0
 ·subst h0
  have hf:ig xs 0=true:=by simp[ig]
  have HF:=ah hf
  have hq:gu 0=true:=by simp[gu]
  have HQ:=ah hq
  clear hf hq
  go_enter Try.func91,Try.ntmps91
  go_wp2_with fail
  refine(iZ _ 0 _).mono ?_
  rintro e w1 ⟨he,hU1⟩
  rw[HQ.out] at he
  subst he
  go_wp2
  go_ret
  exact⟨eF HF.out.symm,((Upd.refl _ _).alloc _).trans hU1 (fun _ _ h=>h)⟩
 ·obtain⟨j,rfl⟩:∃j,i=j+1:=⟨i - 1,by omega⟩
  have hq:gu (j+1)=false:=by simp[gu]
  have HQ:=ah hq
  clear hq
  obtain⟨ad,x,rfl,hx,hc⟩:=h.r.int1 (k:=j) (by omega)
  have hf:ig xs (j+1)=(x==10):=by
   unfold ig
   simp[hx]
   rw[Bool.eq_iff_iff];simp
  have HF:=ah hf
  have hcell:∀W,Upd Nob w W→W.cell? (ad.add j)=some (.int .i64 x):=by
   intro W hW
   obtain⟨ad',x',e1,e2,h2⟩:=(h.r.upd hW (fun _ _=>aj)).int1 (k:=j) (by omega)
   injection e1 with e1
   rw[hx] at e2
   injection e2 with e2
   subst e1;subst e2
   exact h2
  have HC:=ah hcell
  clear hf hcell hx hc h
  go_enter Try.func91,Try.ntmps91
  go_wp2_with fail
  refine(iZ _ (j+1) _).mono ?_
  rintro e w1 ⟨he,hU1⟩
  rw[HQ.out] at he
  subst he
  have hU:=((Upd.refl Nob w).alloc (.cells #[.slice (some ad) n c,.int .i64 ((j:Int)+1)] 127)).trans hU1 (fun _ _ h=>h)
  have hc1:=HC.out w1 hU
  have hC1:=(Cells.new w 127 #[.slice (some ad) n c,.int .i64 ((j:Int)+1)]).upd hU1 aj
  have e0:w1.cell? ⟨w.heap.size,0,none⟩=some (.slice (some ad) n c):=hC1.ak rfl
  have e1:w1.cell? ⟨w.heap.size,1,none⟩=some (.int .i64 ((j:Int)+1)):=hC1.ak rfl
  go_wp2
  go_ret
  exact⟨eF HF.out.symm,hU⟩
theorem end_any (h:dB w S A n xs) (hi:i≤n):Calls Try.prog 92 #[.agg #[.slice A n c,.int .i64 (i:Int)]] w fun e w'=>e=.returned (.bool (endB xs i))∧Upd Nob w w':=by
 have hm:=h.n
 have hl:=h.len
 by_cases h0:i=n
 ·have hf:endB xs i=true:=by simp[endB,h0,hl]
  have HF:=ah hf
  have hq:lastB xs i=true:=by simp[lastB,h0,hl]
  have HQ:=ah hq
  clear hf hq
  subst h0
  go_enter Try.func92,Try.ntmps92
  go_wp2_with fail
  refine(kC _ A i c i xs hl (Nat.le_refl _) hm).mono ?_
  rintro e w1 ⟨he,hU1⟩
  rw[HQ.out] at he
  subst he
  go_wp2
  go_ret
  exact⟨eF HF.out.symm,((Upd.refl _ _).alloc _).trans hU1 (fun _ _ h=>h)⟩
 ·have hq:lastB xs i=false:=by simp[lastB,hl,h0]
  have HQ:=ah hq
  clear hq
  obtain⟨ad,x,rfl,hx,hc⟩:=h.r.int1 (k:=i) (by omega)
  have hf:endB xs i=(x==10):=by
   unfold endB
   simp[hx,hl,h0]
   rw[Bool.eq_iff_iff];simp
  have HF:=ah hf
  have hcell:∀W,Upd Nob w W→W.cell? (ad.add i)=some (.int .i64 x):=by
   intro W hW
   obtain⟨ad',x',e1,e2,h2⟩:=(h.r.upd hW (fun _ _=>aj)).int1 (k:=i) (by omega)
   injection e1 with e1
   rw[hx] at e2
   injection e2 with e2
   subst e1;subst e2
   exact h2
  have HC:=ah hcell
  clear hf hcell hx hc h
  go_enter Try.func92,Try.ntmps92
  go_wp2_with fail
  refine(kC _ (some ad) n c i xs hl hi hm).mono ?_
  rintro e w1 ⟨he,hU1⟩
  rw[HQ.out] at he
  subst he
  have hU:=((Upd.refl Nob w).alloc (.cells #[.slice (some ad) n c,.int .i64 (i:Int)] 127)).trans hU1 (fun _ _ h=>h)
  have hc1:=HC.out w1 hU
  have hC1:=(Cells.new w 127 #[.slice (some ad) n c,.int .i64 (i:Int)]).upd hU1 aj
  have e0:w1.cell? ⟨w.heap.size,0,none⟩=some (.slice (some ad) n c):=hC1.ak rfl
  have e1:w1.cell? ⟨w.heap.size,1,none⟩=some (.int .i64 (i:Int)):=hC1.ak rfl
  go_wp2
  go_ret
  exact⟨eF HF.out.symm,hU⟩
theorem edge_any (h:dB w S A n xs) (hi:i≤n):Calls Try.prog 93 #[.agg #[.slice A n c,.int .i64 (i:Int)]] w fun e w'=>e=.returned (.bool (wedgeB xs i))∧Upd Nob w w':=by
 have hm:=h.n
 have hl:=h.len
 have hres:wedgeB xs i=(kR xs i != eP xs i):=rfl
 have HR:=ah hres
 clear hres
 by_cases h0:i=0
 ·subst h0
  have HQ1:Hid (gu 0=true):=rfl
  have HA:Hid (kR xs 0=false):=rfl
  by_cases h1:n=0
  ·have hq:lastB xs 0=true:=by simp[lastB,hl,h1]
   have hb:eP xs 0=false:=by
    have:xs=[]:=List.eq_nil_of_length_eq_zero (by omega)
    simp[eP,this]
   have HQ2:=ah hq
   have HB:=ah hb
   clear hq hb h h1
   have hC0:=Cells.new w 127 #[.slice A n c,.int .i64 0]
   have hU0:=(Upd.refl Nob w).alloc (.cells #[.slice A n c,.int .i64 0] 127)
   go_enter Try.func93,Try.ntmps93
   go_wp2_with fail
   refine(iZ _ 0 _).mono ?_
   rintro e w1 ⟨he,hU1⟩
   rw[HQ1.out] at he
   subst he
   have hC1:=hC0.upd hU1 aj
   have hU2:=hU0.trans hU1 (fun _ _ h=>h)
   have e0:w1.cell? ⟨w.heap.size,0,none⟩=some (.slice A n c):=hC1.ak rfl
   have e1:w1.cell? ⟨w.heap.size,1,none⟩=some (.int .i64 0):=hC1.ak rfl
   go_wp2_with fail
   refine(kC _ A n c 0 xs hl (by omega) hm).mono ?_
   rintro e w2 ⟨he,hU3⟩
   rw[HQ2.out] at he
   subst he
   clear e0 e1
   have hC2:=hC1.upd hU3 aj
   have hU4:=hU2.trans hU3 (fun _ _ h=>h)
   have e0:w2.cell? ⟨w.heap.size,0,none⟩=some (.slice A n c):=hC2.ak rfl
   have e1:w2.cell? ⟨w.heap.size,1,none⟩=some (.int .i64 0):=hC2.ak rfl
   go_wp2
   go_ret
   exact⟨eF (by rw[HR.out,HA.out,HB.out];first | rfl | simp),hU4⟩
  ·have hq:lastB xs 0=false:=by simp[lastB,hl];omega
   have HQ2:=ah hq
   obtain⟨ad,y,rfl,hyk,hyi,hyc⟩:=h.at_ (k:=0) (by omega)
   have hb:eP xs 0=fE y:=by simp[eP,hyk]
   have HB:=ah hb
   have HY:=ah hyc
   clear hq hb h hyk hyc
   have hC0:=Cells.new w 127 #[.slice (some ad) n c,.int .i64 0]
   have hU0:=(Upd.refl Nob w).alloc (.cells #[.slice (some ad) n c,.int .i64 0] 127)
   go_enter Try.func93,Try.ntmps93
   go_wp2_with fail
   refine(iZ _ 0 _).mono ?_
   rintro e w1 ⟨he,hU1⟩
   rw[HQ1.out] at he
   subst he
   have hC1:=hC0.upd hU1 aj
   have hU2:=hU0.trans hU1 (fun _ _ h=>h)
   have e0:w1.cell? ⟨w.heap.size,0,none⟩=some (.slice (some ad) n c):=hC1.ak rfl
   have e1:w1.cell? ⟨w.heap.size,1,none⟩=some (.int .i64 0):=hC1.ak rfl
   go_wp2_with fail
   refine(kC _ (some ad) n c 0 xs hl (by omega) hm).mono ?_
   rintro e w2 ⟨he,hU3⟩
   rw[HQ2.out] at he
   subst he
   clear e0 e1
   have hC2:=hC1.upd hU3 aj
   have hU4:=hU2.trans hU3 (fun _ _ h=>h)
   have e0:w2.cell? ⟨w.heap.size,0,none⟩=some (.slice (some ad) n c):=hC2.ak rfl
   have e1:w2.cell? ⟨w.heap.size,1,none⟩=some (.int .i64 0):=hC2.ak rfl
   have hy1:=HY.out w2 hU4
   rw[add_zero_R] at hy1
   go_wp2_with fail
   refine(word_any y _ hyi).mono ?_
   rintro e w' ⟨rfl,rfl⟩
   go_wp2
   go_ret
   exact⟨eF (by rw[HR.out,HA.out,HB.out];first | rfl | simp),hU4⟩
 ·obtain⟨j,rfl⟩:∃j,i=j+1:=⟨i - 1,by omega⟩
  have HQ1:Hid (gu (j+1)=false):=by simp[gu,Hid]
  obtain⟨ad,x,rfl,hxk,hxi,hxc⟩:=h.at_ (k:=j) (by omega)
  have ha:kR xs (j+1)=fE x:=by simp[kR,hxk]
  have HA:=ah ha
  have HX:=ah hxc
  clear ha hxk hxc h0
  by_cases h1:j+1=n
  ·have hq:lastB xs (j+1)=true:=by simp[lastB,hl,h1]
   have hb:eP xs (j+1)=false:=by
    have:xs[j+1]?=none:=List.getElem?_eq_none (by omega)
    simp[eP,this]
   have HQ2:=ah hq
   have HB:=ah hb
   clear hq hb h h1
   have hC0:=Cells.new w 127 #[.slice (some ad) n c,.int .i64 ((j:Int)+1)]
   have hU0:=(Upd.refl Nob w).alloc (.cells #[.slice (some ad) n c,.int .i64 ((j:Int)+1)] 127)
   go_enter Try.func93,Try.ntmps93
   go_wp2_with fail
   refine(iZ _ (j+1) _).mono ?_
   rintro e w1 ⟨he,hU1⟩
   rw[HQ1.out] at he
   subst he
   have hC1:=hC0.upd hU1 aj
   have hU2:=hU0.trans hU1 (fun _ _ h=>h)
   have e0:w1.cell? ⟨w.heap.size,0,none⟩=some (.slice (some ad) n c):=hC1.ak rfl
   have e1:w1.cell? ⟨w.heap.size,1,none⟩=some (.int .i64 ((j:Int)+1)):=hC1.ak rfl
   have hx1:=HX.out w1 hU2
   go_wp2_with fail
   refine(word_any x _ hxi).mono ?_
   rintro e w' ⟨rfl,rfl⟩
   go_wp2_with fail
   refine(kC _ (some ad) n c (j+1) xs hl (by omega) hm).mono ?_
   rintro e w2 ⟨he,hU3⟩
   rw[HQ2.out] at he
   subst he
   clear e0 e1
   have hC2:=hC1.upd hU3 aj
   have hU4:=hU2.trans hU3 (fun _ _ h=>h)
   have e0:w2.cell? ⟨w.heap.size,0,none⟩=some (.slice (some ad) n c):=hC2.ak rfl
   have e1:w2.cell? ⟨w.heap.size,1,none⟩=some (.int .i64 ((j:Int)+1)):=hC2.ak rfl
   go_wp2
   go_ret
   exact⟨eF (by rw[HR.out,HA.out,HB.out];first | rfl | simp),hU4⟩
  ·have hq:lastB xs (j+1)=false:=by simp[lastB,hl];omega
   have HQ2:=ah hq
   obtain⟨ad',y,e1,hyk,hyi,hyc⟩:=h.at_ (k:=j+1) (by omega)
   injection e1 with e1
   subst e1
   have hb:eP xs (j+1)=fE y:=by simp[eP,hyk]
   have HB:=ah hb
   have HY:=ah hyc
   clear hq hb h hyk hyc
   have hC0:=Cells.new w 127 #[.slice (some ad) n c,.int .i64 ((j:Int)+1)]
   have hU0:=(Upd.refl Nob w).alloc (.cells #[.slice (some ad) n c,.int .i64 ((j:Int)+1)] 127)
   go_enter Try.func93,Try.ntmps93
   go_wp2_with fail
   refine(iZ _ (j+1) _).mono ?_
   rintro e w1 ⟨he,hU1⟩
   rw[HQ1.out] at he
   subst he
   have hC1:=hC0.upd hU1 aj
   have hU2:=hU0.trans hU1 (fun _ _ h=>h)
   have e0:w1.cell? ⟨w.heap.size,0,none⟩=some (.slice (some ad) n c):=hC1.ak rfl
   have e1:w1.cell? ⟨w.heap.size,1,none⟩=some (.int .i64 ((j:Int)+1)):=hC1.ak rfl
   have hx1:=HX.out w1 hU2
   go_wp2_with fail
   refine(word_any x _ hxi).mono ?_
   rintro e w' ⟨rfl,rfl⟩
   go_wp2_with fail
   refine(kC _ (some ad) n c (j+1) xs hl (by omega) hm).mono ?_
   rintro e w2 ⟨he,hU3⟩
   rw[HQ2.out] at he
   subst he
   clear e0 e1
   have hC2:=hC1.upd hU3 aj
   have hU4:=hU2.trans hU3 (fun _ _ h=>h)
   have e0:w2.cell? ⟨w.heap.size,0,none⟩=some (.slice (some ad) n c):=hC2.ak rfl
   have e1:w2.cell? ⟨w.heap.size,1,none⟩=some (.int .i64 ((j:Int)+1)):=hC2.ak rfl
   have hy1:=HY.out w2 hU4
   rw[add_succ_] at hy1
   go_wp2_with fail
   refine(word_any y _ hyi).mono ?_
   rintro e w' ⟨rfl,rfl⟩
   go_wp2
   go_ret
   exact⟨eF (by rw[HR.out,HA.out,HB.out];first | rfl | simp),hU4⟩
theorem noEdge_any (h:dB w S A n xs) (hi:i≤n):Calls Try.prog 94 #[.agg #[.slice A n c,.int .i64 (i:Int)]] w fun e w'=>e=.returned (.bool (!wedgeB xs i))∧Upd Nob w w':=by
 go_enter Try.func94,Try.ntmps94
 go_wp2_with fail
 refine(edge_any _ S A n c i xs (h.upd ((Upd.refl Nob w).alloc _) (fun _ _=>aj)) hi).mono ?_
 rintro e w1 ⟨rfl,hU1⟩
 go_wp2
 go_ret
 exact⟨rfl,((Upd.refl _ _).alloc _).trans hU1 (fun _ _ h=>h)⟩
end
end Go.Proofs.Ytnkefclbchpafaa

/-
  The walks of look.At, Holds, Flip. Printed by gen_at.py.
-/
namespace Go.Proofs.Ytnkefclbchpafaa
set_option maxHeartbeats 16000000
open Go.RowKit
set_option linter.unusedVariables false
def rowCells:Array Value:=#[.int .i64 1,.int .i64 2,.func (.func 89) #[] #[],.int .i64 2,.int .i64 1,.func (.func 90) #[] #[],.int .i64 4,.int .i64 8,.func (.func 91) #[] #[],.int .i64 8,.int .i64 4,.func (.func 92) #[] #[],.int .i64 16,.int .i64 16,.func (.func 93) #[] #[],.int .i64 32,.int .i64 32,.func (.func 94) #[] #[]]
theorem rows_any (w:World):Calls Try.prog 72 #[] w fun e w'=>∃g,e=.returned (.slice (some ⟨g,0,none⟩) 6 6)∧Cells w' g 125 rowCells∧w.heap.size≤g∧Upd Nob w w':=by
 go_enter Try.func72,Try.ntmps72
 go_wp2
 go_ret
 exact⟨w.heap.size,rfl,Cells.new _ _ _,Nat.le_refl _,(Upd.refl _ _).alloc _⟩
theorem or_add (a b:Nat) (ha:a < 9223372036854775808) (hb:b < 9223372036854775808) (h:a ||| b=a+b) (hab:a+b < 9223372036854775808):bits .or .i64 (a:Int) (b:Int)=(a:Int)+(b:Int):=by
 show IntKind.i64.wrap ((BitVec.ofInt 64 (a:Int) ||| BitVec.ofInt 64 (b:Int)).toNat:Int)=_
 rw[BitVec.toNat_or,ofInt_nat a ha,ofInt_nat b hb,h,IntKind.wrap_i64]
 omega
theorem or_pow (a:Int) (k:Nat) (h0:0≤a) (h1:a < 2 ^ k) (hk:k < 60):bits .or .i64 a (2 ^ k)=a+2 ^ k:=by
 obtain⟨a,rfl⟩:=Int.eq_ofNat_of_zero_le h0
 have h1':a < 2 ^ k:=by exact_mod_cast h1
 have hp:2 ^ k≤2 ^ 59:=Nat.pow_le_pow_right (by decide) (by omega)
 have e:((2:Int) ^ k)=((2 ^ k:Nat):Int):=by simp
 rw[e]
 refine or_add a (2 ^ k) (by omega) (by omega) ?_ (by omega)
 have:=Nat.two_pow_add_eq_or_of_lt h1' 1
 rw[Nat.mul_one,Nat.or_comm] at this
 omega
theorem at_in (w:World) (S:Nat→Prop) (A:Option Addr) (n c i:Nat) (xs:List Int) (hx:dB w S A n xs) (hi:i≤n) :
  Calls Try.prog 49 #[.slice A n c,.int .i64 (i:Int)] w fun e w'=>e=.returned (.int .i64 (part xs i 6))∧Upd Nob w w':=by
 have hm:=hx.n
 have hl:=hx.len
 go_enter Try.func49,Try.ntmps49
 go_wp2_with (go_at_call 72;refine(rows_any w).mono ?_;rintro e w1 ⟨g,rfl,hR,hg,hU1⟩)
 go_loopg [5,18] 6 (fun gk v5 v18 wr=>∃k:Nat,k+gk=6∧v5=.int .i64 (part xs i k)∧v18=.int .i64 (k:Int)∧Cells wr g 125 rowCells∧Upd Nob w wr)
 case atStart=>exact⟨0,rfl,rfl,rfl,hR,hU1⟩
 case round =>
  clear hR hU1
  obtain⟨k,hk,rfl,rfl,hR,hU⟩:=hrel
  have hx':=hx.upd hU (fun _ _=>aj)
  clear hx
  rename_i hx'
  have hx:=hx'
  clear hx'
  rcases(by omega:k=0∨k=1∨k=2∨k=3∨k=4∨k=5∨k=6) with rfl | rfl | rfl | rfl | rfl | rfl | rfl
  ·obtain⟨a,ha⟩:∃a,part xs i 0=a:=⟨_,rfl⟩
   obtain⟨h0,h1⟩:=eT xs i 0
   have hs:part xs i 1=part xs i 0+fI (flag xs i 0) (2 ^ 0):=rfl
   rw[ha] at h0 h1 hs
   have hor:bits .or .i64 a 1=a+1:=or_pow a 0 h0 h1 (by omega)
   have h1':a < 1:=h1
   have HS:=ah hs
   clear h1 hs
   rw[ha]
   clear ha
   have c0:wr.cell? ⟨g,0,none⟩=some (.int .i64 1):=hR.ak rfl
   have c1:wr.cell? ⟨g,1,none⟩=some (.int .i64 2):=hR.ak rfl
   have c2:wr.cell? ⟨g,2,none⟩=some (.func (.func 89) #[] #[]):=hR.ak rfl
   have HU:=(Upd.refl Nob wr).alloc (.cells #[.int .i64 1,.int .i64 2,.func (.func 89) #[] #[]] 125)
   have hC:=Cells.new wr 125 #[.int .i64 1,.int .i64 2,.func (.func 89) #[] #[]]
   have hR1:=hR.upd HU aj
   obtain⟨f,hf⟩:∃f,flag xs i 0=f:=⟨_,rfl⟩
   have HF:=ah hf
   clear hf hR
   go_wp2_with fail
   refine(iZ _ i _).mono ?_
   rintro e w3 ⟨he,hU3⟩
   have he':e=.returned (.bool (flag xs i 0)):=he
   rw[HF.out] at he'
   subst he'
   clear he
   have hC3:=hC.upd hU3 aj
   have d0:w3.cell? ⟨wr.heap.size,0,none⟩=some (.int .i64 1):=hC3.ak rfl
   have hR3:=hR1.upd hU3 aj
   have hU4:=(hU.trans HU (fun _ _ h=>h)).trans hU3 (fun _ _ h=>h)
   clear c0 c1 c2 hC hR1 hC3 hU HU hU3
   cases f
   ·go_wp2
    go_roundg 5
    case measure=>omega
    case rel=>exact⟨1,rfl,by rw[HS.out,HF.out];simp[fI],rfl,hR3,hU4⟩
   ·go_wp2
    go_roundg 5
    case measure=>omega
    case rel=>exact⟨1,rfl,by rw[HS.out,HF.out];rfl,rfl,hR3,hU4⟩
  ·obtain⟨a,ha⟩:∃a,part xs i 1=a:=⟨_,rfl⟩
   obtain⟨h0,h1⟩:=eT xs i 1
   have hs:part xs i 2=part xs i 1+fI (flag xs i 1) (2 ^ 1):=rfl
   rw[ha] at h0 h1 hs
   have hor:bits .or .i64 a 2=a+2:=or_pow a 1 h0 h1 (by omega)
   have h1':a < 2:=h1
   have HS:=ah hs
   clear h1 hs
   rw[ha]
   clear ha
   have c0:wr.cell? ⟨g,3,none⟩=some (.int .i64 2):=hR.ak rfl
   have c1:wr.cell? ⟨g,4,none⟩=some (.int .i64 1):=hR.ak rfl
   have c2:wr.cell? ⟨g,5,none⟩=some (.func (.func 90) #[] #[]):=hR.ak rfl
   have HU:=(Upd.refl Nob wr).alloc (.cells #[.int .i64 2,.int .i64 1,.func (.func 90) #[] #[]] 125)
   have hC:=Cells.new wr 125 #[.int .i64 2,.int .i64 1,.func (.func 90) #[] #[]]
   have hR1:=hR.upd HU aj
   obtain⟨f,hf⟩:∃f,flag xs i 1=f:=⟨_,rfl⟩
   have HF:=ah hf
   clear hf hR
   go_wp2_with fail
   refine(kC _ A n c i xs hl hi hm).mono ?_
   rintro e w3 ⟨he,hU3⟩
   have he':e=.returned (.bool (flag xs i 1)):=he
   rw[HF.out] at he'
   subst he'
   clear he
   have hC3:=hC.upd hU3 aj
   have d0:w3.cell? ⟨wr.heap.size,0,none⟩=some (.int .i64 2):=hC3.ak rfl
   have hR3:=hR1.upd hU3 aj
   have hU4:=(hU.trans HU (fun _ _ h=>h)).trans hU3 (fun _ _ h=>h)
   clear c0 c1 c2 hC hR1 hC3 hU HU hU3
   cases f
   ·go_wp2
    go_roundg 4
    case measure=>omega
    case rel=>exact⟨2,rfl,by rw[HS.out,HF.out];simp[fI],rfl,hR3,hU4⟩
   ·go_wp2
    go_roundg 4
    case measure=>omega
    case rel=>exact⟨2,rfl,by rw[HS.out,HF.out];rfl,rfl,hR3,hU4⟩
  ·obtain⟨a,ha⟩:∃a,part xs i 2=a:=⟨_,rfl⟩
   obtain⟨h0,h1⟩:=eT xs i 2
   have hs:part xs i 3=part xs i 2+fI (flag xs i 2) (2 ^ 2):=rfl
   rw[ha] at h0 h1 hs
   have hor:bits .or .i64 a 4=a+4:=or_pow a 2 h0 h1 (by omega)
   have h1':a < 4:=h1
   have HS:=ah hs
   clear h1 hs
   rw[ha]
   clear ha
   have c0:wr.cell? ⟨g,6,none⟩=some (.int .i64 4):=hR.ak rfl
   have c1:wr.cell? ⟨g,7,none⟩=some (.int .i64 8):=hR.ak rfl
   have c2:wr.cell? ⟨g,8,none⟩=some (.func (.func 91) #[] #[]):=hR.ak rfl
   have HU:=(Upd.refl Nob wr).alloc (.cells #[.int .i64 4,.int .i64 8,.func (.func 91) #[] #[]] 125)
   have hC:=Cells.new wr 125 #[.int .i64 4,.int .i64 8,.func (.func 91) #[] #[]]
   have hR1:=hR.upd HU aj
   obtain⟨f,hf⟩:∃f,flag xs i 2=f:=⟨_,rfl⟩
   have HF:=ah hf
   clear hf hR
   go_wp2_with fail
   refine(begin_any _ S A n c i xs (hx.upd HU (fun _ _=>aj)) hi).mono ?_
   rintro e w3 ⟨he,hU3⟩
   have he':e=.returned (.bool (flag xs i 2)):=he
   rw[HF.out] at he'
   subst he'
   clear he
   have hC3:=hC.upd hU3 aj
   have d0:w3.cell? ⟨wr.heap.size,0,none⟩=some (.int .i64 4):=hC3.ak rfl
   have hR3:=hR1.upd hU3 aj
   have hU4:=(hU.trans HU (fun _ _ h=>h)).trans hU3 (fun _ _ h=>h)
   clear c0 c1 c2 hC hR1 hC3 hU HU hU3
   cases f
   ·go_wp2
    go_roundg 3
    case measure=>omega
    case rel=>exact⟨3,rfl,by rw[HS.out,HF.out];simp[fI],rfl,hR3,hU4⟩
   ·go_wp2
    go_roundg 3
    case measure=>omega
    case rel=>exact⟨3,rfl,by rw[HS.out,HF.out];rfl,rfl,hR3,hU4⟩
  ·obtain⟨a,ha⟩:∃a,part xs i 3=a:=⟨_,rfl⟩
   obtain⟨h0,h1⟩:=eT xs i 3
   have hs:part xs i 4=part xs i 3+fI (flag xs i 3) (2 ^ 3):=rfl
   rw[ha] at h0 h1 hs
   have hor:bits .or .i64 a 8=a+8:=or_pow a 3 h0 h1 (by omega)
   have h1':a < 8:=h1
   have HS:=ah hs
   clear h1 hs
   rw[ha]
   clear ha
   have c0:wr.cell? ⟨g,9,none⟩=some (.int .i64 8):=hR.ak rfl
   have c1:wr.cell? ⟨g,10,none⟩=some (.int .i64 4):=hR.ak rfl
   have c2:wr.cell? ⟨g,11,none⟩=some (.func (.func 92) #[] #[]):=hR.ak rfl
   have HU:=(Upd.refl Nob wr).alloc (.cells #[.int .i64 8,.int .i64 4,.func (.func 92) #[] #[]] 125)
   have hC:=Cells.new wr 125 #[.int .i64 8,.int .i64 4,.func (.func 92) #[] #[]]
   have hR1:=hR.upd HU aj
   obtain⟨f,hf⟩:∃f,flag xs i 3=f:=⟨_,rfl⟩
   have HF:=ah hf
   clear hf hR
   go_wp2_with fail
   refine(end_any _ S A n c i xs (hx.upd HU (fun _ _=>aj)) hi).mono ?_
   rintro e w3 ⟨he,hU3⟩
   have he':e=.returned (.bool (flag xs i 3)):=he
   rw[HF.out] at he'
   subst he'
   clear he
   have hC3:=hC.upd hU3 aj
   have d0:w3.cell? ⟨wr.heap.size,0,none⟩=some (.int .i64 8):=hC3.ak rfl
   have hR3:=hR1.upd hU3 aj
   have hU4:=(hU.trans HU (fun _ _ h=>h)).trans hU3 (fun _ _ h=>h)
   clear c0 c1 c2 hC hR1 hC3 hU HU hU3
   cases f
   ·go_wp2
    go_roundg 2
    case measure=>omega
    case rel=>exact⟨4,rfl,by rw[HS.out,HF.out];simp[fI],rfl,hR3,hU4⟩
   ·go_wp2
    go_roundg 2
    case measure=>omega
    case rel=>exact⟨4,rfl,by rw[HS.out,HF.out];rfl,rfl,hR3,hU4⟩
  ·obtain⟨a,ha⟩:∃a,part xs i 4=a:=⟨_,rfl⟩
   obtain⟨h0,h1⟩:=eT xs i 4
   have hs:part xs i 5=part xs i 4+fI (flag xs i 4) (2 ^ 4):=rfl
   rw[ha] at h0 h1 hs
   have hor:bits .or .i64 a 16=a+16:=or_pow a 4 h0 h1 (by omega)
   have h1':a < 16:=h1
   have HS:=ah hs
   clear h1 hs
   rw[ha]
   clear ha
   have c0:wr.cell? ⟨g,12,none⟩=some (.int .i64 16):=hR.ak rfl
   have c1:wr.cell? ⟨g,13,none⟩=some (.int .i64 16):=hR.ak rfl
   have c2:wr.cell? ⟨g,14,none⟩=some (.func (.func 93) #[] #[]):=hR.ak rfl
   have HU:=(Upd.refl Nob wr).alloc (.cells #[.int .i64 16,.int .i64 16,.func (.func 93) #[] #[]] 125)
   have hC:=Cells.new wr 125 #[.int .i64 16,.int .i64 16,.func (.func 93) #[] #[]]
   have hR1:=hR.upd HU aj
   obtain⟨f,hf⟩:∃f,flag xs i 4=f:=⟨_,rfl⟩
   have HF:=ah hf
   clear hf hR
   go_wp2_with fail
   refine(edge_any _ S A n c i xs (hx.upd HU (fun _ _=>aj)) hi).mono ?_
   rintro e w3 ⟨he,hU3⟩
   have he':e=.returned (.bool (flag xs i 4)):=he
   rw[HF.out] at he'
   subst he'
   clear he
   have hC3:=hC.upd hU3 aj
   have d0:w3.cell? ⟨wr.heap.size,0,none⟩=some (.int .i64 16):=hC3.ak rfl
   have hR3:=hR1.upd hU3 aj
   have hU4:=(hU.trans HU (fun _ _ h=>h)).trans hU3 (fun _ _ h=>h)
   clear c0 c1 c2 hC hR1 hC3 hU HU hU3
   cases f
   ·go_wp2
    go_roundg 1
    case measure=>omega
    case rel=>exact⟨5,rfl,by rw[HS.out,HF.out];simp[fI],rfl,hR3,hU4⟩
   ·go_wp2
    go_roundg 1
    case measure=>omega
    case rel=>exact⟨5,rfl,by rw[HS.out,HF.out];rfl,rfl,hR3,hU4⟩
  ·obtain⟨a,ha⟩:∃a,part xs i 5=a:=⟨_,rfl⟩
   obtain⟨h0,h1⟩:=eT xs i 5
   have hs:part xs i 6=part xs i 5+fI (flag xs i 5) (2 ^ 5):=rfl
   rw[ha] at h0 h1 hs
   have hor:bits .or .i64 a 32=a+32:=or_pow a 5 h0 h1 (by omega)
   have h1':a < 32:=h1
   have HS:=ah hs
   clear h1 hs
   rw[ha]
   clear ha
   have c0:wr.cell? ⟨g,15,none⟩=some (.int .i64 32):=hR.ak rfl
   have c1:wr.cell? ⟨g,16,none⟩=some (.int .i64 32):=hR.ak rfl
   have c2:wr.cell? ⟨g,17,none⟩=some (.func (.func 94) #[] #[]):=hR.ak rfl
   have HU:=(Upd.refl Nob wr).alloc (.cells #[.int .i64 32,.int .i64 32,.func (.func 94) #[] #[]] 125)
   have hC:=Cells.new wr 125 #[.int .i64 32,.int .i64 32,.func (.func 94) #[] #[]]
   have hR1:=hR.upd HU aj
   obtain⟨f,hf⟩:∃f,flag xs i 5=f:=⟨_,rfl⟩
   have HF:=ah hf
   clear hf hR
   go_wp2_with fail
   refine(noEdge_any _ S A n c i xs (hx.upd HU (fun _ _=>aj)) hi).mono ?_
   rintro e w3 ⟨he,hU3⟩
   have he':e=.returned (.bool (flag xs i 5)):=he
   rw[HF.out] at he'
   subst he'
   clear he
   have hC3:=hC.upd hU3 aj
   have d0:w3.cell? ⟨wr.heap.size,0,none⟩=some (.int .i64 32):=hC3.ak rfl
   have hR3:=hR1.upd hU3 aj
   have hU4:=(hU.trans HU (fun _ _ h=>h)).trans hU3 (fun _ _ h=>h)
   clear c0 c1 c2 hC hR1 hC3 hU HU hU3
   cases f
   ·go_wp2
    go_roundg 0
    case measure=>omega
    case rel=>exact⟨6,rfl,by rw[HS.out,HF.out];simp[fI],rfl,hR3,hU4⟩
   ·go_wp2
    go_roundg 0
    case measure=>omega
    case rel=>exact⟨6,rfl,by rw[HS.out,HF.out];rfl,rfl,hR3,hU4⟩
  ·go_wp2
   go_ret
   exact⟨rfl,hU⟩
theorem lookHolds_any (w:World) (x y:Int):Calls Try.prog 54 #[.int .i64 x,.int .i64 y] w fun e w'=>e=.returned (.bool (cZ x y))∧w=w':=by
 go_enter Try.func54,Try.ntmps54
 go_wp2
 go_ret
 exact⟨rfl,rfl⟩
end Go.Proofs.Ytnkefclbchpafaa

/-
  A visit with a stack in place of the recursion: what is popped, what is pushed. Plain lists, no memory.
-/
namespace Go.Proofs.Ytnkefclbchpafaa
set_option linter.unusedVariables false
section
variable {is : List av} {text : List Int} {j : Nat}
theorem visit_fuel:∀(f g pc:Nat) (caps:List Int) (s:VSt),s.met.count false < f→s.met.count false < g→aO is text j f pc caps s=aO is text j g pc caps s
 | 0,g,pc,caps,s,h,_=>absurd h (by omega)
 | f+1,0,pc,caps,s,_,h=>absurd h (by omega)
 | f+1,g+1,pc,caps,s,hf,hg=>by
  rcases ho:s.over with _ | _
  rotate_left
  ·rw[fO ho,fO ho]
  rcases hm:s.met[pc]? with _ | m
  ·rw[iX hm,iX hm]
  rcases m with _ | _
  rotate_left
  ·rw[fB hm,fB hm]
  rcases hx:is[pc]? with _ | x
  ·rw[gZ hx,gZ hx]
  have hc:=gK hm
  have hc':(aG s pc).met.count false+1=s.met.count false:=hc
  have one:∀(pc2:Nat) (caps2:List Int),aO is text j f pc2 caps2 (aG s pc)=aO is text j g pc2 caps2 (aG s pc):=fun pc2 caps2=>visit_fuel f g pc2 caps2 (aG s pc) (by omega) (by omega)
  have two:∀(pc2 pc3:Nat) (caps2:List Int),aO is text j f pc3 caps2 (aO is text j f pc2 caps2 (aG s pc))=aO is text j g pc3 caps2 (aO is text j g pc2 caps2 (aG s pc)):=fun pc2 pc3 caps2=>by
   rw[one]
   have hu:=dV is text j g pc2 caps2 (aG s pc)
   exact visit_fuel f g pc3 caps2 _ (by omega) (by omega)
  rw[gG ho hm hx,gG ho hm hx,two,one,one]
theorem stack_over (l:List (Nat × List Int)) {s:VSt} (h:s.over=true):ay is text j l s=s:=(eG l s).end_ h
section
variable {l : List (Nat × List Int)} {s : VSt} {pc : Nat} {caps : List Int} {x : av}
theorem stack_met (h:s.met[pc]?=some true):ay is text j ((pc,caps)::l) s=ay is text j l s:=by
 show ay is text j l (aO is text j (is.length+1) pc caps s)=_
 rw[fB h]
theorem stack_fuel (hl:s.met.length=is.length) (hm:s.met[pc]?=some false) (pc2:Nat) (caps2:List Int):aO is text j is.length pc2 caps2 (aG s pc)=aO is text j (is.length+1) pc2 caps2 (aG s pc):=by
 have hc:(aG s pc).met.count false+1=s.met.count false:=gK hm
 have:=List.count_le_length (a:=false) (l:=s.met)
 exact visit_fuel _ _ _ _ _ (by omega) (by omega)
theorem stack_go (ho:s.over=false) (hl:s.met.length=is.length) (hm:s.met[pc]?=some false) (hx:is[pc]?=some x):ay is text j ((pc,caps)::l) s =
  if x.op=2 then ay is text j ((x.x.toNat,caps)::(x.y.toNat,caps)::l) (aG s pc)
  else if x.op=7 then ay is text j ((x.x.toNat,caps)::l) (aG s pc)
  else if x.op=3 then ay is text j ((x.x.toNat,caps.set x.arg.toNat (j:Int))::l) (aG s pc)
  else if x.op=4 then if cZ x.arg (part text j 6) then ay is text j ((x.x.toNat,caps)::l) (aG s pc) else ay is text j l (aG s pc)
  else if x.op=1 then if dI x.rs text j then ay is text j l { aG s pc with next:=s.next++[(x.x.toNat,caps)] } else ay is text j l (aG s pc)
  else if x.op=5 then { aG s pc with found:=some (caps,x.arg),over:=true }
  else ay is text j l (aG s pc):=by
 show ay is text j l (aO is text j (is.length+1) pc caps s)=_
 rw[gG ho hm hx]
 by_cases o2:x.op=2
 ·rw[if_pos o2,if_pos o2,stack_fuel hl hm]
  show _=ay is text j l (aO is text j (is.length+1) x.y.toNat caps (aO is text j (is.length+1) x.x.toNat caps (aG s pc)))
  have hc:(aG s pc).met.count false+1=s.met.count false:=gK hm
  have:=List.count_le_length (a:=false) (l:=s.met)
  have hu:=dV is text j (is.length+1) x.x.toNat caps (aG s pc)
  rw[visit_fuel is.length (is.length+1) x.y.toNat caps _ (by omega) (by omega)]
 rw[if_neg o2,if_neg o2]
 by_cases o7:x.op=7
 ·rw[if_pos o7,if_pos o7,stack_fuel hl hm];rfl
 rw[if_neg o7,if_neg o7]
 by_cases o3:x.op=3
 ·rw[if_pos o3,if_pos o3,stack_fuel hl hm];rfl
 rw[if_neg o3,if_neg o3]
 by_cases o4:x.op=4
 ·rw[if_pos o4,if_pos o4]
  split
  ·rw[stack_fuel hl hm];rfl
  ·rfl
 rw[if_neg o4,if_neg o4]
 by_cases o1:x.op=1
 ·rw[if_pos o1,if_pos o1]
  split <;> rfl
 rw[if_neg o1,if_neg o1]
 by_cases o5:x.op=5
 ·rw[if_pos o5,if_pos o5]
  exact stack_over l rfl
 rw[if_neg o5,if_neg o5]
end
end
end Go.Proofs.Ytnkefclbchpafaa
