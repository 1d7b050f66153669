/-
  RefNodeX, put together.
-/
import Derived.Test.YtlaofcgllchedaaZ06NameX
import Derived.Test.YtlaofcgllchedaaZNodeG
import Derived.Test.YtlaofcgllchedaaZRfRight

/-
  The walks of heronref05.Name, bare, assertion and node on every node: a yes says that it may be. Printed by gen_refnodex.py.
-/
namespace Go.Proofs.Ytlaofcgllchedaa
open Go.RowKit
set_option linter.unusedVariables false

/-- some answer; a yes says p -/
def YesAns (p : Prop) (w : World) (e : Ending) (w' : World) : Prop := ∃ r, e = .returned (.bool r) ∧ (r = true → p) ∧ Upd Nob w w'
def YesSame (p : Prop) (w : World) (e : Ending) (w' : World) : Prop := ∃ r, e = .returned (.bool r) ∧ (r = true → p) ∧ w = w'
theorem YesAns.to {p q : Prop} (h : p → q) {w : World} {e : Ending} {w' : World} (ha : YesAns p w e w') : YesAns q w e w' := by
  obtain ⟨r, a, b, c⟩ := ha
  exact ⟨r, a, fun x => h (b x), c⟩
set_option maxRecDepth 100000 in
set_option maxHeartbeats 4000000 in
theorem bareX_1 (t : Tree) (w : World) (RA : Option Addr) (rc : Nat) (SA : Option Addr) (sc : Nat) (hrn : t.rs.length ≤ 140737488355328) (hnl : t.subs.length ≤ 140737488355328) :
    Calls Try.prog 31 #[.agg #[.int .i64 t.kind, .slice RA t.rs.length rc, .int .i64 t.am, .slice SA t.subs.length sc, .int .i64 t.mn, .int .i64 t.mx, .bool t.lz, .int .i64 t.ix, .string t.nm], .bool false, .bool false, .bool false, .bool false, .bool false] w (YesAns (t.rs.length = 0 ∧ t.am = 0 ∧ t.subs.length = 0 ∧ t.mn = 0 ∧ t.mx = 0 ∧ t.lz = false ∧ t.ix = 0 ∧ t.nm.toList.isEmpty = true) w) := by
  have C0 := Cells.new w 30 #[.int .i64 t.kind, .slice RA t.rs.length rc, .int .i64 t.am, .slice SA t.subs.length sc, .int .i64 t.mn, .int .i64 t.mx, .bool t.lz, .int .i64 t.ix, .string t.nm]
  have hU := (Upd.refl Nob w).alloc (.cells #[.int .i64 t.kind, .slice RA t.rs.length rc, .int .i64 t.am, .slice SA t.subs.length sc, .int .i64 t.mn, .int .i64 t.mx, .bool t.lz, .int .i64 t.ix, .string t.nm] 30)
  generalize hP : YesAns (t.rs.length = 0 ∧ t.am = 0 ∧ t.subs.length = 0 ∧ t.mn = 0 ∧ t.mx = 0 ∧ t.lz = false ∧ t.ix = 0 ∧ t.nm.toList.isEmpty = true) w = P
  have HP := hideP (show ∀ r w', (r = true → t.rs.length = 0 ∧ t.am = 0 ∧ t.subs.length = 0 ∧ t.mn = 0 ∧ t.mx = 0 ∧ t.lz = false ∧ t.ix = 0 ∧ t.nm.toList.isEmpty = true) → Upd Nob w w' → P (.returned (.bool r)) w' from fun r w' a b => by rw [← hP]; exact ⟨r, rfl, a, b⟩)
  clear hP
  have HE := hideP (show ∀ x y : Int, ¬ x = y → (x == y) = false from fun x y h => by simpa using h)
  go_enter Try.func31, Try.ntmps31
  go_upto_region 1 with fail
  generalize w.alloc (.cells #[.int .i64 t.kind, .slice RA t.rs.length rc, .int .i64 t.am, .slice SA t.subs.length sc, .int .i64 t.mn, .int .i64 t.mx, .bool t.lz, .int .i64 t.ix, .string t.nm] 30) = w2 at *
  have HU := hideP hU
  obtain ⟨e0, e1, e2, e3, e4, e5, e6, e7, e8⟩ := nine C0
  clear C0 hU
  by_cases h_r : t.rs.length = 0
  case neg =>
    have f_r : ((t.rs.length : Int) == 0) = false := HE.out _ _ (by omega)
    clear h_r
    go_wp2_with fail
    try go_ret
    exact HP.out false _ (fun h => by cases h) HU.out
  have f_r : ((t.rs.length : Int) == 0) = true := by simp [h_r]
  have Y_r := hideP h_r
  clear h_r
  by_cases h_a : t.am = 0
  case neg =>
    have f_a : (t.am == 0) = false := HE.out _ _ (by omega)
    clear h_a
    go_wp2_with fail
    try go_ret
    exact HP.out false _ (fun h => by cases h) HU.out
  have f_a : (t.am == 0) = true := by simp [h_a]
  have Y_a := hideP h_a
  clear h_a
  by_cases h_s : t.subs.length = 0
  case neg =>
    have f_s : ((t.subs.length : Int) == 0) = false := HE.out _ _ (by omega)
    clear h_s
    go_wp2_with fail
    try go_ret
    exact HP.out false _ (fun h => by cases h) HU.out
  have f_s : ((t.subs.length : Int) == 0) = true := by simp [h_s]
  have Y_s := hideP h_s
  clear h_s
  by_cases h_m : t.mn = 0
  case neg =>
    have f_m : (t.mn == 0) = false := HE.out _ _ (by omega)
    clear h_m
    go_wp2_with fail
    try go_ret
    exact HP.out false _ (fun h => by cases h) HU.out
  have f_m : (t.mn == 0) = true := by simp [h_m]
  have Y_m := hideP h_m
  clear h_m
  by_cases h_x : t.mx = 0
  case neg =>
    have f_x : (t.mx == 0) = false := HE.out _ _ (by omega)
    clear h_x
    go_wp2_with fail
    try go_ret
    exact HP.out false _ (fun h => by cases h) HU.out
  have f_x : (t.mx == 0) = true := by simp [h_x]
  have Y_x := hideP h_x
  clear h_x
  rcases hz : t.lz with _ | _
  case true =>
    go_wp2_with fail
    try go_ret
    exact HP.out false _ (fun h => by cases h) HU.out
  have Y_z := hideP hz
  by_cases h_i : t.ix = 0
  case neg =>
    have f_i : (t.ix == 0) = false := HE.out _ _ (by omega)
    clear h_i
    go_wp2_with fail
    try go_ret
    exact HP.out false _ (fun h => by cases h) HU.out
  have f_i : (t.ix == 0) = true := by simp [h_i]
  have Y_i := hideP h_i
  clear h_i
  rcases hn : t.nm.toList.isEmpty with _ | _
  case false =>
    go_wp2_with fail
    try go_ret
    exact HP.out false _ (fun h => by cases h) HU.out
  have Y_n := hideP hn
  go_wp2_with fail
  try go_ret
  exact HP.out true _ (fun _ => ⟨Y_r.out, Y_a.out, Y_s.out, Y_m.out, Y_x.out, Y_z.out, Y_i.out, Y_n.out⟩) HU.out
set_option maxRecDepth 100000 in
set_option maxHeartbeats 4000000 in
theorem bareX_2 (t : Tree) (w : World) (RA : Option Addr) (rc : Nat) (SA : Option Addr) (sc : Nat) (hrn : t.rs.length ≤ 140737488355328) (hnl : t.subs.length ≤ 140737488355328) :
    Calls Try.prog 31 #[.agg #[.int .i64 t.kind, .slice RA t.rs.length rc, .int .i64 t.am, .slice SA t.subs.length sc, .int .i64 t.mn, .int .i64 t.mx, .bool t.lz, .int .i64 t.ix, .string t.nm], .bool true, .bool false, .bool false, .bool false, .bool false] w (YesAns (t.am = 0 ∧ t.subs.length = 0 ∧ t.mn = 0 ∧ t.mx = 0 ∧ t.lz = false ∧ t.ix = 0 ∧ t.nm.toList.isEmpty = true) w) := by
  have C0 := Cells.new w 30 #[.int .i64 t.kind, .slice RA t.rs.length rc, .int .i64 t.am, .slice SA t.subs.length sc, .int .i64 t.mn, .int .i64 t.mx, .bool t.lz, .int .i64 t.ix, .string t.nm]
  have hU := (Upd.refl Nob w).alloc (.cells #[.int .i64 t.kind, .slice RA t.rs.length rc, .int .i64 t.am, .slice SA t.subs.length sc, .int .i64 t.mn, .int .i64 t.mx, .bool t.lz, .int .i64 t.ix, .string t.nm] 30)
  generalize hP : YesAns (t.am = 0 ∧ t.subs.length = 0 ∧ t.mn = 0 ∧ t.mx = 0 ∧ t.lz = false ∧ t.ix = 0 ∧ t.nm.toList.isEmpty = true) w = P
  have HP := hideP (show ∀ r w', (r = true → t.am = 0 ∧ t.subs.length = 0 ∧ t.mn = 0 ∧ t.mx = 0 ∧ t.lz = false ∧ t.ix = 0 ∧ t.nm.toList.isEmpty = true) → Upd Nob w w' → P (.returned (.bool r)) w' from fun r w' a b => by rw [← hP]; exact ⟨r, rfl, a, b⟩)
  clear hP
  have HE := hideP (show ∀ x y : Int, ¬ x = y → (x == y) = false from fun x y h => by simpa using h)
  go_enter Try.func31, Try.ntmps31
  go_upto_region 1 with fail
  generalize w.alloc (.cells #[.int .i64 t.kind, .slice RA t.rs.length rc, .int .i64 t.am, .slice SA t.subs.length sc, .int .i64 t.mn, .int .i64 t.mx, .bool t.lz, .int .i64 t.ix, .string t.nm] 30) = w2 at *
  have HU := hideP hU
  obtain ⟨e0, e1, e2, e3, e4, e5, e6, e7, e8⟩ := nine C0
  clear C0 hU
  by_cases h_a : t.am = 0
  case neg =>
    have f_a : (t.am == 0) = false := HE.out _ _ (by omega)
    clear h_a
    go_wp2_with fail
    try go_ret
    exact HP.out false _ (fun h => by cases h) HU.out
  have f_a : (t.am == 0) = true := by simp [h_a]
  have Y_a := hideP h_a
  clear h_a
  by_cases h_s : t.subs.length = 0
  case neg =>
    have f_s : ((t.subs.length : Int) == 0) = false := HE.out _ _ (by omega)
    clear h_s
    go_wp2_with fail
    try go_ret
    exact HP.out false _ (fun h => by cases h) HU.out
  have f_s : ((t.subs.length : Int) == 0) = true := by simp [h_s]
  have Y_s := hideP h_s
  clear h_s
  by_cases h_m : t.mn = 0
  case neg =>
    have f_m : (t.mn == 0) = false := HE.out _ _ (by omega)
    clear h_m
    go_wp2_with fail
    try go_ret
    exact HP.out false _ (fun h => by cases h) HU.out
  have f_m : (t.mn == 0) = true := by simp [h_m]
  have Y_m := hideP h_m
  clear h_m
  by_cases h_x : t.mx = 0
  case neg =>
    have f_x : (t.mx == 0) = false := HE.out _ _ (by omega)
    clear h_x
    go_wp2_with fail
    try go_ret
    exact HP.out false _ (fun h => by cases h) HU.out
  have f_x : (t.mx == 0) = true := by simp [h_x]
  have Y_x := hideP h_x
  clear h_x
  rcases hz : t.lz with _ | _
  case true =>
    go_wp2_with fail
    try go_ret
    exact HP.out false _ (fun h => by cases h) HU.out
  have Y_z := hideP hz
  by_cases h_i : t.ix = 0
  case neg =>
    have f_i : (t.ix == 0) = false := HE.out _ _ (by omega)
    clear h_i
    go_wp2_with fail
    try go_ret
    exact HP.out false _ (fun h => by cases h) HU.out
  have f_i : (t.ix == 0) = true := by simp [h_i]
  have Y_i := hideP h_i
  clear h_i
  rcases hn : t.nm.toList.isEmpty with _ | _
  case false =>
    go_wp2_with fail
    try go_ret
    exact HP.out false _ (fun h => by cases h) HU.out
  have Y_n := hideP hn
  go_wp2_with fail
  try go_ret
  exact HP.out true _ (fun _ => ⟨Y_a.out, Y_s.out, Y_m.out, Y_x.out, Y_z.out, Y_i.out, Y_n.out⟩) HU.out
set_option maxRecDepth 100000 in
set_option maxHeartbeats 4000000 in
theorem bareX_3 (t : Tree) (w : World) (RA : Option Addr) (rc : Nat) (SA : Option Addr) (sc : Nat) (hrn : t.rs.length ≤ 140737488355328) (hnl : t.subs.length ≤ 140737488355328) :
    Calls Try.prog 31 #[.agg #[.int .i64 t.kind, .slice RA t.rs.length rc, .int .i64 t.am, .slice SA t.subs.length sc, .int .i64 t.mn, .int .i64 t.mx, .bool t.lz, .int .i64 t.ix, .string t.nm], .bool false, .bool true, .bool false, .bool false, .bool false] w (YesAns (t.rs.length = 0 ∧ t.subs.length = 0 ∧ t.mn = 0 ∧ t.mx = 0 ∧ t.lz = false ∧ t.ix = 0 ∧ t.nm.toList.isEmpty = true) w) := by
  have C0 := Cells.new w 30 #[.int .i64 t.kind, .slice RA t.rs.length rc, .int .i64 t.am, .slice SA t.subs.length sc, .int .i64 t.mn, .int .i64 t.mx, .bool t.lz, .int .i64 t.ix, .string t.nm]
  have hU := (Upd.refl Nob w).alloc (.cells #[.int .i64 t.kind, .slice RA t.rs.length rc, .int .i64 t.am, .slice SA t.subs.length sc, .int .i64 t.mn, .int .i64 t.mx, .bool t.lz, .int .i64 t.ix, .string t.nm] 30)
  generalize hP : YesAns (t.rs.length = 0 ∧ t.subs.length = 0 ∧ t.mn = 0 ∧ t.mx = 0 ∧ t.lz = false ∧ t.ix = 0 ∧ t.nm.toList.isEmpty = true) w = P
  have HP := hideP (show ∀ r w', (r = true → t.rs.length = 0 ∧ t.subs.length = 0 ∧ t.mn = 0 ∧ t.mx = 0 ∧ t.lz = false ∧ t.ix = 0 ∧ t.nm.toList.isEmpty = true) → Upd Nob w w' → P (.returned (.bool r)) w' from fun r w' a b => by rw [← hP]; exact ⟨r, rfl, a, b⟩)
  clear hP
  have HE := hideP (show ∀ x y : Int, ¬ x = y → (x == y) = false from fun x y h => by simpa using h)
  go_enter Try.func31, Try.ntmps31
  go_upto_region 1 with fail
  generalize w.alloc (.cells #[.int .i64 t.kind, .slice RA t.rs.length rc, .int .i64 t.am, .slice SA t.subs.length sc, .int .i64 t.mn, .int .i64 t.mx, .bool t.lz, .int .i64 t.ix, .string t.nm] 30) = w2 at *
  have HU := hideP hU
  obtain ⟨e0, e1, e2, e3, e4, e5, e6, e7, e8⟩ := nine C0
  clear C0 hU
  by_cases h_r : t.rs.length = 0
  case neg =>
    have f_r : ((t.rs.length : Int) == 0) = false := HE.out _ _ (by omega)
    clear h_r
    go_wp2_with fail
    try go_ret
    exact HP.out false _ (fun h => by cases h) HU.out
  have f_r : ((t.rs.length : Int) == 0) = true := by simp [h_r]
  have Y_r := hideP h_r
  clear h_r
  by_cases h_s : t.subs.length = 0
  case neg =>
    have f_s : ((t.subs.length : Int) == 0) = false := HE.out _ _ (by omega)
    clear h_s
    go_wp2_with fail
    try go_ret
    exact HP.out false _ (fun h => by cases h) HU.out
  have f_s : ((t.subs.length : Int) == 0) = true := by simp [h_s]
  have Y_s := hideP h_s
  clear h_s
  by_cases h_m : t.mn = 0
  case neg =>
    have f_m : (t.mn == 0) = false := HE.out _ _ (by omega)
    clear h_m
    go_wp2_with fail
    try go_ret
    exact HP.out false _ (fun h => by cases h) HU.out
  have f_m : (t.mn == 0) = true := by simp [h_m]
  have Y_m := hideP h_m
  clear h_m
  by_cases h_x : t.mx = 0
  case neg =>
    have f_x : (t.mx == 0) = false := HE.out _ _ (by omega)
    clear h_x
    go_wp2_with fail
    try go_ret
    exact HP.out false _ (fun h => by cases h) HU.out
  have f_x : (t.mx == 0) = true := by simp [h_x]
  have Y_x := hideP h_x
  clear h_x
  rcases hz : t.lz with _ | _
  case true =>
    go_wp2_with fail
    try go_ret
    exact HP.out false _ (fun h => by cases h) HU.out
  have Y_z := hideP hz
  by_cases h_i : t.ix = 0
  case neg =>
    have f_i : (t.ix == 0) = false := HE.out _ _ (by omega)
    clear h_i
    go_wp2_with fail
    try go_ret
    exact HP.out false _ (fun h => by cases h) HU.out
  have f_i : (t.ix == 0) = true := by simp [h_i]
  have Y_i := hideP h_i
  clear h_i
  rcases hn : t.nm.toList.isEmpty with _ | _
  case false =>
    go_wp2_with fail
    try go_ret
    exact HP.out false _ (fun h => by cases h) HU.out
  have Y_n := hideP hn
  go_wp2_with fail
  try go_ret
  exact HP.out true _ (fun _ => ⟨Y_r.out, Y_s.out, Y_m.out, Y_x.out, Y_z.out, Y_i.out, Y_n.out⟩) HU.out
set_option maxRecDepth 100000 in
set_option maxHeartbeats 4000000 in
theorem bareX_4 (t : Tree) (w : World) (RA : Option Addr) (rc : Nat) (SA : Option Addr) (sc : Nat) (hrn : t.rs.length ≤ 140737488355328) (hnl : t.subs.length ≤ 140737488355328) :
    Calls Try.prog 31 #[.agg #[.int .i64 t.kind, .slice RA t.rs.length rc, .int .i64 t.am, .slice SA t.subs.length sc, .int .i64 t.mn, .int .i64 t.mx, .bool t.lz, .int .i64 t.ix, .string t.nm], .bool false, .bool false, .bool true, .bool false, .bool false] w (YesAns (t.rs.length = 0 ∧ t.am = 0 ∧ t.mn = 0 ∧ t.mx = 0 ∧ t.lz = false ∧ t.ix = 0 ∧ t.nm.toList.isEmpty = true) w) := by
  have C0 := Cells.new w 30 #[.int .i64 t.kind, .slice RA t.rs.length rc, .int .i64 t.am, .slice SA t.subs.length sc, .int .i64 t.mn, .int .i64 t.mx, .bool t.lz, .int .i64 t.ix, .string t.nm]
  have hU := (Upd.refl Nob w).alloc (.cells #[.int .i64 t.kind, .slice RA t.rs.length rc, .int .i64 t.am, .slice SA t.subs.length sc, .int .i64 t.mn, .int .i64 t.mx, .bool t.lz, .int .i64 t.ix, .string t.nm] 30)
  generalize hP : YesAns (t.rs.length = 0 ∧ t.am = 0 ∧ t.mn = 0 ∧ t.mx = 0 ∧ t.lz = false ∧ t.ix = 0 ∧ t.nm.toList.isEmpty = true) w = P
  have HP := hideP (show ∀ r w', (r = true → t.rs.length = 0 ∧ t.am = 0 ∧ t.mn = 0 ∧ t.mx = 0 ∧ t.lz = false ∧ t.ix = 0 ∧ t.nm.toList.isEmpty = true) → Upd Nob w w' → P (.returned (.bool r)) w' from fun r w' a b => by rw [← hP]; exact ⟨r, rfl, a, b⟩)
  clear hP
  have HE := hideP (show ∀ x y : Int, ¬ x = y → (x == y) = false from fun x y h => by simpa using h)
  go_enter Try.func31, Try.ntmps31
  go_upto_region 1 with fail
  generalize w.alloc (.cells #[.int .i64 t.kind, .slice RA t.rs.length rc, .int .i64 t.am, .slice SA t.subs.length sc, .int .i64 t.mn, .int .i64 t.mx, .bool t.lz, .int .i64 t.ix, .string t.nm] 30) = w2 at *
  have HU := hideP hU
  obtain ⟨e0, e1, e2, e3, e4, e5, e6, e7, e8⟩ := nine C0
  clear C0 hU
  by_cases h_r : t.rs.length = 0
  case neg =>
    have f_r : ((t.rs.length : Int) == 0) = false := HE.out _ _ (by omega)
    clear h_r
    go_wp2_with fail
    try go_ret
    exact HP.out false _ (fun h => by cases h) HU.out
  have f_r : ((t.rs.length : Int) == 0) = true := by simp [h_r]
  have Y_r := hideP h_r
  clear h_r
  by_cases h_a : t.am = 0
  case neg =>
    have f_a : (t.am == 0) = false := HE.out _ _ (by omega)
    clear h_a
    go_wp2_with fail
    try go_ret
    exact HP.out false _ (fun h => by cases h) HU.out
  have f_a : (t.am == 0) = true := by simp [h_a]
  have Y_a := hideP h_a
  clear h_a
  by_cases h_m : t.mn = 0
  case neg =>
    have f_m : (t.mn == 0) = false := HE.out _ _ (by omega)
    clear h_m
    go_wp2_with fail
    try go_ret
    exact HP.out false _ (fun h => by cases h) HU.out
  have f_m : (t.mn == 0) = true := by simp [h_m]
  have Y_m := hideP h_m
  clear h_m
  by_cases h_x : t.mx = 0
  case neg =>
    have f_x : (t.mx == 0) = false := HE.out _ _ (by omega)
    clear h_x
    go_wp2_with fail
    try go_ret
    exact HP.out false _ (fun h => by cases h) HU.out
  have f_x : (t.mx == 0) = true := by simp [h_x]
  have Y_x := hideP h_x
  clear h_x
  rcases hz : t.lz with _ | _
  case true =>
    go_wp2_with fail
    try go_ret
    exact HP.out false _ (fun h => by cases h) HU.out
  have Y_z := hideP hz
  by_cases h_i : t.ix = 0
  case neg =>
    have f_i : (t.ix == 0) = false := HE.out _ _ (by omega)
    clear h_i
    go_wp2_with fail
    try go_ret
    exact HP.out false _ (fun h => by cases h) HU.out
  have f_i : (t.ix == 0) = true := by simp [h_i]
  have Y_i := hideP h_i
  clear h_i
  rcases hn : t.nm.toList.isEmpty with _ | _
  case false =>
    go_wp2_with fail
    try go_ret
    exact HP.out false _ (fun h => by cases h) HU.out
  have Y_n := hideP hn
  go_wp2_with fail
  try go_ret
  exact HP.out true _ (fun _ => ⟨Y_r.out, Y_a.out, Y_m.out, Y_x.out, Y_z.out, Y_i.out, Y_n.out⟩) HU.out
set_option maxRecDepth 100000 in
set_option maxHeartbeats 4000000 in
theorem bareX_6 (t : Tree) (w : World) (RA : Option Addr) (rc : Nat) (SA : Option Addr) (sc : Nat) (hrn : t.rs.length ≤ 140737488355328) (hnl : t.subs.length ≤ 140737488355328) :
    Calls Try.prog 31 #[.agg #[.int .i64 t.kind, .slice RA t.rs.length rc, .int .i64 t.am, .slice SA t.subs.length sc, .int .i64 t.mn, .int .i64 t.mx, .bool t.lz, .int .i64 t.ix, .string t.nm], .bool false, .bool false, .bool true, .bool true, .bool false] w (YesAns (t.rs.length = 0 ∧ t.am = 0 ∧ t.ix = 0 ∧ t.nm.toList.isEmpty = true) w) := by
  have C0 := Cells.new w 30 #[.int .i64 t.kind, .slice RA t.rs.length rc, .int .i64 t.am, .slice SA t.subs.length sc, .int .i64 t.mn, .int .i64 t.mx, .bool t.lz, .int .i64 t.ix, .string t.nm]
  have hU := (Upd.refl Nob w).alloc (.cells #[.int .i64 t.kind, .slice RA t.rs.length rc, .int .i64 t.am, .slice SA t.subs.length sc, .int .i64 t.mn, .int .i64 t.mx, .bool t.lz, .int .i64 t.ix, .string t.nm] 30)
  generalize hP : YesAns (t.rs.length = 0 ∧ t.am = 0 ∧ t.ix = 0 ∧ t.nm.toList.isEmpty = true) w = P
  have HP := hideP (show ∀ r w', (r = true → t.rs.length = 0 ∧ t.am = 0 ∧ t.ix = 0 ∧ t.nm.toList.isEmpty = true) → Upd Nob w w' → P (.returned (.bool r)) w' from fun r w' a b => by rw [← hP]; exact ⟨r, rfl, a, b⟩)
  clear hP
  have HE := hideP (show ∀ x y : Int, ¬ x = y → (x == y) = false from fun x y h => by simpa using h)
  go_enter Try.func31, Try.ntmps31
  go_upto_region 1 with fail
  generalize w.alloc (.cells #[.int .i64 t.kind, .slice RA t.rs.length rc, .int .i64 t.am, .slice SA t.subs.length sc, .int .i64 t.mn, .int .i64 t.mx, .bool t.lz, .int .i64 t.ix, .string t.nm] 30) = w2 at *
  have HU := hideP hU
  obtain ⟨e0, e1, e2, e3, e4, e5, e6, e7, e8⟩ := nine C0
  clear C0 hU
  by_cases h_r : t.rs.length = 0
  case neg =>
    have f_r : ((t.rs.length : Int) == 0) = false := HE.out _ _ (by omega)
    clear h_r
    go_wp2_with fail
    try go_ret
    exact HP.out false _ (fun h => by cases h) HU.out
  have f_r : ((t.rs.length : Int) == 0) = true := by simp [h_r]
  have Y_r := hideP h_r
  clear h_r
  by_cases h_a : t.am = 0
  case neg =>
    have f_a : (t.am == 0) = false := HE.out _ _ (by omega)
    clear h_a
    go_wp2_with fail
    try go_ret
    exact HP.out false _ (fun h => by cases h) HU.out
  have f_a : (t.am == 0) = true := by simp [h_a]
  have Y_a := hideP h_a
  clear h_a
  by_cases h_i : t.ix = 0
  case neg =>
    have f_i : (t.ix == 0) = false := HE.out _ _ (by omega)
    clear h_i
    go_wp2_with fail
    try go_ret
    exact HP.out false _ (fun h => by cases h) HU.out
  have f_i : (t.ix == 0) = true := by simp [h_i]
  have Y_i := hideP h_i
  clear h_i
  rcases hn : t.nm.toList.isEmpty with _ | _
  case false =>
    go_wp2_with fail
    try go_ret
    exact HP.out false _ (fun h => by cases h) HU.out
  have Y_n := hideP hn
  go_wp2_with fail
  try go_ret
  exact HP.out true _ (fun _ => ⟨Y_r.out, Y_a.out, Y_i.out, Y_n.out⟩) HU.out
set_option maxRecDepth 100000 in
set_option maxHeartbeats 4000000 in
theorem bareX_7 (t : Tree) (w : World) (RA : Option Addr) (rc : Nat) (SA : Option Addr) (sc : Nat) (hrn : t.rs.length ≤ 140737488355328) (hnl : t.subs.length ≤ 140737488355328) :
    Calls Try.prog 31 #[.agg #[.int .i64 t.kind, .slice RA t.rs.length rc, .int .i64 t.am, .slice SA t.subs.length sc, .int .i64 t.mn, .int .i64 t.mx, .bool t.lz, .int .i64 t.ix, .string t.nm], .bool false, .bool false, .bool true, .bool false, .bool true] w (YesAns (t.rs.length = 0 ∧ t.am = 0 ∧ t.mn = 0 ∧ t.mx = 0 ∧ t.lz = false) w) := by
  have C0 := Cells.new w 30 #[.int .i64 t.kind, .slice RA t.rs.length rc, .int .i64 t.am, .slice SA t.subs.length sc, .int .i64 t.mn, .int .i64 t.mx, .bool t.lz, .int .i64 t.ix, .string t.nm]
  have hU := (Upd.refl Nob w).alloc (.cells #[.int .i64 t.kind, .slice RA t.rs.length rc, .int .i64 t.am, .slice SA t.subs.length sc, .int .i64 t.mn, .int .i64 t.mx, .bool t.lz, .int .i64 t.ix, .string t.nm] 30)
  generalize hP : YesAns (t.rs.length = 0 ∧ t.am = 0 ∧ t.mn = 0 ∧ t.mx = 0 ∧ t.lz = false) w = P
  have HP := hideP (show ∀ r w', (r = true → t.rs.length = 0 ∧ t.am = 0 ∧ t.mn = 0 ∧ t.mx = 0 ∧ t.lz = false) → Upd Nob w w' → P (.returned (.bool r)) w' from fun r w' a b => by rw [← hP]; exact ⟨r, rfl, a, b⟩)
  clear hP
  have HE := hideP (show ∀ x y : Int, ¬ x = y → (x == y) = false from fun x y h => by simpa using h)
  go_enter Try.func31, Try.ntmps31
  go_upto_region 1 with fail
  generalize w.alloc (.cells #[.int .i64 t.kind, .slice RA t.rs.length rc, .int .i64 t.am, .slice SA t.subs.length sc, .int .i64 t.mn, .int .i64 t.mx, .bool t.lz, .int .i64 t.ix, .string t.nm] 30) = w2 at *
  have HU := hideP hU
  obtain ⟨e0, e1, e2, e3, e4, e5, e6, e7, e8⟩ := nine C0
  clear C0 hU
  by_cases h_r : t.rs.length = 0
  case neg =>
    have f_r : ((t.rs.length : Int) == 0) = false := HE.out _ _ (by omega)
    clear h_r
    go_wp2_with fail
    try go_ret
    exact HP.out false _ (fun h => by cases h) HU.out
  have f_r : ((t.rs.length : Int) == 0) = true := by simp [h_r]
  have Y_r := hideP h_r
  clear h_r
  by_cases h_a : t.am = 0
  case neg =>
    have f_a : (t.am == 0) = false := HE.out _ _ (by omega)
    clear h_a
    go_wp2_with fail
    try go_ret
    exact HP.out false _ (fun h => by cases h) HU.out
  have f_a : (t.am == 0) = true := by simp [h_a]
  have Y_a := hideP h_a
  clear h_a
  by_cases h_m : t.mn = 0
  case neg =>
    have f_m : (t.mn == 0) = false := HE.out _ _ (by omega)
    clear h_m
    go_wp2_with fail
    try go_ret
    exact HP.out false _ (fun h => by cases h) HU.out
  have f_m : (t.mn == 0) = true := by simp [h_m]
  have Y_m := hideP h_m
  clear h_m
  by_cases h_x : t.mx = 0
  case neg =>
    have f_x : (t.mx == 0) = false := HE.out _ _ (by omega)
    clear h_x
    go_wp2_with fail
    try go_ret
    exact HP.out false _ (fun h => by cases h) HU.out
  have f_x : (t.mx == 0) = true := by simp [h_x]
  have Y_x := hideP h_x
  clear h_x
  rcases hz : t.lz with _ | _
  case true =>
    go_wp2_with fail
    try go_ret
    exact HP.out false _ (fun h => by cases h) HU.out
  have Y_z := hideP hz
  go_wp2_with fail
  try go_ret
  exact HP.out true _ (fun _ => ⟨Y_r.out, Y_a.out, Y_m.out, Y_x.out, Y_z.out⟩) HU.out
theorem refAsX_yes (w : World) (x : Int) (h : asB x = true) : Calls Try.prog 33 #[.int .i64 x] w fun e w' => e = .returned (.bool true) ∧ w = w' := by
  unfold asB at h
  have h := of_decide_eq_true h
  rcases h with rfl | rfl | rfl | rfl | rfl | rfl
  · go_enter Try.func33, Try.ntmps33
    go_wp2_with fail
    go_ret
    exact ⟨rfl, rfl⟩
  · go_enter Try.func33, Try.ntmps33
    go_wp2_with fail
    go_ret
    exact ⟨rfl, rfl⟩
  · go_enter Try.func33, Try.ntmps33
    go_wp2_with fail
    go_ret
    exact ⟨rfl, rfl⟩
  · go_enter Try.func33, Try.ntmps33
    go_wp2_with fail
    go_ret
    exact ⟨rfl, rfl⟩
  · go_enter Try.func33, Try.ntmps33
    go_wp2_with fail
    go_ret
    exact ⟨rfl, rfl⟩
  · go_enter Try.func33, Try.ntmps33
    go_wp2_with fail
    go_ret
    exact ⟨rfl, rfl⟩
theorem refAs_no (w : World) (x : Int) (h : asB x = false) : Calls Try.prog 33 #[.int .i64 x] w fun e w' => e = .returned (.bool false) ∧ w = w' := by
  unfold asB at h
  have h := of_decide_eq_false h
  have k1 : (x == 1) = false := by simp; omega
  have k2 : (x == 2) = false := by simp; omega
  have k4 : (x == 4) = false := by simp; omega
  have k8 : (x == 8) = false := by simp; omega
  have k16 : (x == 16) = false := by simp; omega
  have k32 : (x == 32) = false := by simp; omega
  clear h
  go_enter Try.func33, Try.ntmps33
  go_wp2_with fail
  try go_ret
  exact ⟨rfl, rfl⟩
set_option maxHeartbeats 4000000 in
theorem refName_any (w : World) (s : ByteArray) (hs : s.size ≤ 140737488355328) : Calls Try.prog 34 #[.string s] w (YesSame (nmB s) w) := by
  generalize hP : YesSame (nmB s) w = P
  have HP := hideP (show ∀ r, (r = true → nmB s) → P (.returned (.bool r)) w from fun r a => by rw [← hP]; exact ⟨r, rfl, a, rfl⟩)
  clear hP
  by_cases h1 : s.size < 1
  · have g1 : (s.size : Int) < 1 := by omega
    clear h1
    go_enter Try.func34, Try.ntmps34
    go_wp2_with fail
    try go_ret
    exact HP.out false (fun h => by cases h)
  have g1 : ¬ (s.size : Int) < 1 := by omega
  by_cases h2 : 32 < s.size
  · have g2 : (32 : Int) < (s.size : Int) := by omega
    clear h1 h2
    go_enter Try.func34, Try.ntmps34
    go_wp2_with fail
    try go_ret
    exact HP.out false (fun h => by cases h)
  have g2 : ¬ (32 : Int) < (s.size : Int) := by omega
  have HS := hideP (And.intro h1 h2)
  clear h1 h2
  go_enter Try.func34, Try.ntmps34
  go_wp2_with fail
  go_loopg [3, 4, 5, 6] s.size (fun gk v3 v4 v5 v6 wr => ∃ k : Nat, k + gk = s.size ∧ v3 = .int .i64 (k : Int) ∧ (∀ (i : Nat) (h : i < s.size), i < k → wordB ((s[i]).toNat : Int) = true) ∧ (∀ (h : 0 < s.size), 0 < k → ¬ (48 ≤ ((s[0]).toNat : Int) ∧ ((s[0]).toNat : Int) ≤ 57)) ∧ w = wr)
  case atStart => exact ⟨0, by omega, rfl, fun i h hi => by omega, fun h hi => by omega, rfl⟩
  case round =>
    obtain ⟨k, hk, rfl, hA, hB, rfl⟩ := hrel
    have HA := hideP hA
    have HB := hideP hB
    clear hA hB
    by_cases hlt : k < s.size
    · have g3 : (k : Int) < (s.size : Int) := by omega
      have hb : (s[k]).toNat < 256 := (s[k]).toNat_lt
      obtain ⟨c, hc⟩ : ∃ c : Int, ((s[k]).toNat : Int) = c := ⟨_, rfl⟩
      have hwr : wrap64 ((s[k]).toNat : Int) = ((s[k]).toNat : Int) := by unfold wrap64; omega
      have HKK := hideP hk
      clear hk
      have c0 : 0 ≤ c := by omega
      have c1 : c ≤ 255 := by omega
      have HC := hideP hc
      have HW := hideP (show ∀ (hw : wordB c = true) (h0 : k = 0 → ¬ (48 ≤ c ∧ c ≤ 57)), (∀ (i : Nat) (h : i < s.size), i < k + 1 → wordB ((s[i]).toNat : Int) = true) ∧ (∀ (h : 0 < s.size), 0 < k + 1 → ¬ (48 ≤ ((s[0]).toNat : Int) ∧ ((s[0]).toNat : Int) ≤ 57)) from fun hw h0 => ⟨fun i h hi => by
        by_cases e : i = k
        · subst e; rw [HC.out]; exact hw
        · exact HA.out i h (by omega), fun h hi => by
        by_cases e : k = 0
        · subst e; rw [HC.out]; exact h0 rfl
        · exact HB.out h (by omega)⟩)
      rw [hc] at hwr
      rcases (by omega : (97 ≤ c ∧ c ≤ 122) ∨ (65 ≤ c ∧ c ≤ 90) ∨ c = 95 ∨ (48 ≤ c ∧ c ≤ 57) ∨ c < 48 ∨ (57 < c ∧ c < 65) ∨ (90 < c ∧ c < 95) ∨ c = 96 ∨ 122 < c) with q | q | q | q | q | q | q | q | q
      · skip
        have q1 : 97 ≤ ((s[k]).toNat : Int) := by omega
        have q2 : ((s[k]).toNat : Int) ≤ 122 := by omega
        have q95 : ((s[k]).toNat == 95) = false := by simp; omega
        have q95' : (((s[k]).toNat : Int) == 95) = false := by simp; omega
        have d122 : decide (((s[k]).toNat : Int) ≤ 122) = true := by simp; omega
        have d90 : decide (((s[k]).toNat : Int) ≤ 90) = false := by simp; omega
        have d57 : decide (((s[k]).toNat : Int) ≤ 57) = false := by simp; omega
        have HQ := hideP (HW.out (by simp [wordB]; omega) (by omega))
        clear q hc c0 c1
        go_wp2_with fail
        have hk := HKK.out
        go_roundg (s.size - (k + 1))
        case measure => omega
        case rel => exact ⟨k + 1, by omega, by go_num, HQ.out.1, HQ.out.2, rfl⟩
      · skip
        have q1 : 65 ≤ ((s[k]).toNat : Int) := by omega
        have q2 : ((s[k]).toNat : Int) ≤ 90 := by omega
        have q95 : ((s[k]).toNat == 95) = false := by simp; omega
        have q95' : (((s[k]).toNat : Int) == 95) = false := by simp; omega
        have d122 : decide (((s[k]).toNat : Int) ≤ 122) = true := by simp; omega
        have d90 : decide (((s[k]).toNat : Int) ≤ 90) = true := by simp; omega
        have d57 : decide (((s[k]).toNat : Int) ≤ 57) = false := by simp; omega
        have HQ := hideP (HW.out (by simp [wordB]; omega) (by omega))
        clear q hc c0 c1
        go_wp2_with fail
        have hk := HKK.out
        go_roundg (s.size - (k + 1))
        case measure => omega
        case rel => exact ⟨k + 1, by omega, by go_num, HQ.out.1, HQ.out.2, rfl⟩
      · skip
        have q1 : 95 ≤ ((s[k]).toNat : Int) := by omega
        have q2 : ((s[k]).toNat : Int) ≤ 95 := by omega
        have q3 : (s[k]).toNat = 95 := by omega
        have q95 : ((s[k]).toNat == 95) = true := by rw [q3]; rfl
        have q95' : (((s[k]).toNat : Int) == 95) = true := by simp; omega
        clear q3
        have d122 : decide (((s[k]).toNat : Int) ≤ 122) = true := by simp; omega
        have d90 : decide (((s[k]).toNat : Int) ≤ 90) = false := by simp; omega
        have d57 : decide (((s[k]).toNat : Int) ≤ 57) = false := by simp; omega
        have HQ := hideP (HW.out (by simp [wordB]; omega) (by omega))
        clear q hc c0 c1
        go_wp2_with fail
        have hk := HKK.out
        go_roundg (s.size - (k + 1))
        case measure => omega
        case rel => exact ⟨k + 1, by omega, by go_num, HQ.out.1, HQ.out.2, rfl⟩
      · skip
        have q1 : 48 ≤ ((s[k]).toNat : Int) := by omega
        have q2 : ((s[k]).toNat : Int) ≤ 57 := by omega
        have q95 : ((s[k]).toNat == 95) = false := by simp; omega
        have q95' : (((s[k]).toNat : Int) == 95) = false := by simp; omega
        have d122 : decide (((s[k]).toNat : Int) ≤ 122) = true := by simp; omega
        have d90 : decide (((s[k]).toNat : Int) ≤ 90) = true := by simp; omega
        have d57 : decide (((s[k]).toNat : Int) ≤ 57) = true := by simp; omega
        by_cases hk0 : k = 0
        · have k0 : ((k : Int) == 0) = true := by simp [hk0]
          clear q hc c0 c1 hk0
          go_wp2_with fail
          try go_ret
          exact HP.out false (fun h => by cases h)
        · have k0 : ((k : Int) == 0) = false := by simp; omega
          have HQ := hideP (HW.out (by simp [wordB]; omega) (by omega))
          clear q hc c0 c1 hk0
          go_wp2_with fail
          have hk := HKK.out
          go_roundg (s.size - (k + 1))
          case measure => omega
          case rel => exact ⟨k + 1, by omega, by go_num, HQ.out.1, HQ.out.2, rfl⟩
      · skip
        have q1 : 0 ≤ ((s[k]).toNat : Int) := by omega
        have q2 : ((s[k]).toNat : Int) ≤ 47 := by omega
        have q95 : ((s[k]).toNat == 95) = false := by simp; omega
        have q95' : (((s[k]).toNat : Int) == 95) = false := by simp; omega
        have d122 : decide (((s[k]).toNat : Int) ≤ 122) = true := by simp; omega
        have d90 : decide (((s[k]).toNat : Int) ≤ 90) = true := by simp; omega
        have d57 : decide (((s[k]).toNat : Int) ≤ 57) = true := by simp; omega
        clear q hc c0 c1
        go_wp2_with fail
        try go_ret
        exact HP.out false (fun h => by cases h)
      · skip
        have q1 : 58 ≤ ((s[k]).toNat : Int) := by omega
        have q2 : ((s[k]).toNat : Int) ≤ 64 := by omega
        have q95 : ((s[k]).toNat == 95) = false := by simp; omega
        have q95' : (((s[k]).toNat : Int) == 95) = false := by simp; omega
        have d122 : decide (((s[k]).toNat : Int) ≤ 122) = true := by simp; omega
        have d90 : decide (((s[k]).toNat : Int) ≤ 90) = true := by simp; omega
        have d57 : decide (((s[k]).toNat : Int) ≤ 57) = false := by simp; omega
        clear q hc c0 c1
        go_wp2_with fail
        try go_ret
        exact HP.out false (fun h => by cases h)
      · skip
        have q1 : 91 ≤ ((s[k]).toNat : Int) := by omega
        have q2 : ((s[k]).toNat : Int) ≤ 94 := by omega
        have q95 : ((s[k]).toNat == 95) = false := by simp; omega
        have q95' : (((s[k]).toNat : Int) == 95) = false := by simp; omega
        have d122 : decide (((s[k]).toNat : Int) ≤ 122) = true := by simp; omega
        have d90 : decide (((s[k]).toNat : Int) ≤ 90) = false := by simp; omega
        have d57 : decide (((s[k]).toNat : Int) ≤ 57) = false := by simp; omega
        clear q hc c0 c1
        go_wp2_with fail
        try go_ret
        exact HP.out false (fun h => by cases h)
      · skip
        have q1 : 96 ≤ ((s[k]).toNat : Int) := by omega
        have q2 : ((s[k]).toNat : Int) ≤ 96 := by omega
        have q3 : (s[k]).toNat = 96 := by omega
        have q95 : ((s[k]).toNat == 95) = false := by simp; omega
        have q95' : (((s[k]).toNat : Int) == 95) = false := by simp; omega
        clear q3
        have d122 : decide (((s[k]).toNat : Int) ≤ 122) = true := by simp; omega
        have d90 : decide (((s[k]).toNat : Int) ≤ 90) = false := by simp; omega
        have d57 : decide (((s[k]).toNat : Int) ≤ 57) = false := by simp; omega
        clear q hc c0 c1
        go_wp2_with fail
        try go_ret
        exact HP.out false (fun h => by cases h)
      · skip
        have q1 : 123 ≤ ((s[k]).toNat : Int) := by omega
        have q2 : ((s[k]).toNat : Int) ≤ 255 := by omega
        have q95 : ((s[k]).toNat == 95) = false := by simp; omega
        have q95' : (((s[k]).toNat : Int) == 95) = false := by simp; omega
        have d122 : decide (((s[k]).toNat : Int) ≤ 122) = false := by simp; omega
        have d90 : decide (((s[k]).toNat : Int) ≤ 90) = false := by simp; omega
        have d57 : decide (((s[k]).toNat : Int) ≤ 57) = false := by simp; omega
        clear q hc c0 c1
        go_wp2_with fail
        try go_ret
        exact HP.out false (fun h => by cases h)
    · have g3 : ¬ (k : Int) < (s.size : Int) := by omega
      have HQ := hideP (show nmB s from ⟨by have := HS.out.1; omega, by have := HS.out.2; omega, fun i h => HA.out i h (by omega), fun h => HB.out h (by omega)⟩)
      clear hk hlt
      go_wp2_with fail
      try go_ret
      exact HP.out true (fun _ => HQ.out)

set_option maxRecDepth 100000 in
set_option maxHeartbeats 8000000 in
theorem refNode_any (t : Tree) (w : World) (S : Nat → Prop) (cs : Array Value) (h1 : NodeR w S cs t) :
    Calls Try.prog 24 #[.agg cs] w (YesAns (nodeF t) w) := by
  obtain ⟨RA, rc, SA, sc, rfl, hr1, ho, hs1⟩ := h1.top
  have C0 := Cells.new w 30 (nodeCells t RA rc SA sc)
  have hU := (Upd.refl Nob w).alloc (.cells (nodeCells t RA rc SA sc) 30)
  have HR := hideP (hr1.upd hU (fun _ _ => not_nob))
  have hnl := ho.n
  have hrn := hr1.n
  have hns := ho.s
  clear h1 hr1 hs1 ho
  unfold nodeCells at C0 hU HR
  unfold nodeCells
  generalize hP : YesAns (nodeF t) w = P
  have HP := hideP (show ∀ r w', (r = true → nodeF t) → Upd Nob w w' → P (.returned (.bool r)) w' from fun r w' a b => by rw [← hP]; exact ⟨r, rfl, a, b⟩)
  clear hP
  go_enter Try.func24, Try.ntmps24
  go_upto_region 1 with fail
  generalize w.alloc (.cells #[.int .i64 t.kind, .slice RA t.rs.length rc, .int .i64 t.am, .slice SA t.subs.length sc, .int .i64 t.mn, .int .i64 t.mx, .bool t.lz, .int .i64 t.ix, .string t.nm] 30) = w2 at *
  have HU := hideP hU
  have HC := hideP C0
  obtain ⟨e0, e1, e2, e3, e4, e5, e6, e7, e8⟩ := nine C0
  clear C0 hU
  have HE := hideP (show ∀ x y : Int, ¬ x = y → (x == y) = false from fun x y h => by simpa using h)
  by_cases hk : t.kind = 1
  · skip
    have k1 : (t.kind == 1) = true := by rw [hk]; rfl
    have HK := hideP hk
    clear hk
    go_wp2_with (go_at_call 31; refine (bareX_1 t _ RA rc SA sc hrn hnl).mono ?_; rintro e w3 ⟨r, rfl, hq, hU3⟩; have HQ := hideP hq; have HU3 := hideP (HU.out.trans hU3 (fun _ _ h => h)); clear hU3 hq)
    try go_ret
    exact HP.out _ _ (fun h => .inl ⟨by have := HK.out; omega, by obtain ⟨a, b, c, d, e, f, g, h⟩ := HQ.out h; rw [nb1 HK.out]; simp [plainB, countB, groupB, a, b, c, d, e, f, g, h]⟩) HU3.out
  have n1 := hk
  clear hk
  by_cases hk : t.kind = 2
  · skip
    have k1 : (t.kind == 1) = false := by rw [hk]; rfl
    have k2 : (t.kind == 2) = true := by rw [hk]; rfl
    have HK := hideP hk
    clear hk
    go_upto_region 6 with (go_at_call 32; refine (ref_right _ _ _ _ _ _ HR.out).mono ?_; rintro e w3 ⟨he, q, hq⟩; subst he; have HU3 := hideP (show Upd Nob w w3 by rw [hq]; exact HU.out.drewN _); have HC3 := hideP (HC.out.upd (show Upd Nob w2 w3 by rw [hq]; exact (Upd.refl _ _).drewN _) not_nob); clear hq e0 e1 e2 e3 e4 e5 e6 e7 e8)
    obtain ⟨d0, d1, d2, d3, d4, d5, d6, d7, d8⟩ := nine HC3.out
    obtain ⟨v, hv⟩ : ∃ v, rightB t.rs = v := ⟨_, rfl⟩
    have HV := hideP hv
    simp only [hv]
    clear hv
    rcases v with _ | _
    · go_wp2_with fail
      try go_ret
      exact HP.out false _ (fun h => by cases h) HU3.out
    go_wp2_with (go_at_call 31; refine (bareX_2 t _ RA rc SA sc hrn hnl).mono ?_; rintro e w4 ⟨r, rfl, hq, hU4⟩; have HQ := hideP hq; have HU4 := hideP (HU3.out.trans hU4 (fun _ _ h => h)); clear hU4 hq)
    try go_ret
    exact HP.out _ _ (fun h => .inl ⟨by have := HK.out; omega, by obtain ⟨b, c, d, e, f, g, h⟩ := HQ.out h; rw [nb2 HK.out, HV.out]; simp [countB, groupB, b, c, d, e, f, g, h]⟩) HU4.out
  have n2 := hk
  clear hk
  by_cases hk : t.kind = 3
  · skip
    have k1 : (t.kind == 1) = false := by rw [hk]; rfl
    have k2 : (t.kind == 2) = false := by rw [hk]; rfl
    have k3 : (t.kind == 3) = true := by rw [hk]; rfl
    have HK := hideP hk
    clear hk
    obtain ⟨v, hv⟩ : ∃ v, asB t.am = v := ⟨_, rfl⟩
    have HV := hideP hv
    clear hv
    rcases v with _ | _
    · go_wp2_with (go_at_call 33; refine (refAs_no _ _ HV.out).mono ?_; rintro e w9 ⟨rfl, rfl⟩)
      try go_ret
      exact HP.out false _ (fun h => by cases h) HU.out
    go_wp2_with (first | (go_at_call 33; refine (refAsX_yes _ _ HV.out).mono ?_; rintro e w9 ⟨rfl, rfl⟩) | (go_at_call 31; refine (bareX_3 t _ RA rc SA sc hrn hnl).mono ?_; rintro e w3 ⟨r, rfl, hq, hU3⟩; have HQ := hideP hq; have HU3 := hideP (HU.out.trans hU3 (fun _ _ h => h)); clear hU3 hq))
    try go_ret
    exact HP.out _ _ (fun h => .inl ⟨by have := HK.out; omega, by obtain ⟨a, c, d, e, f, g, h⟩ := HQ.out h; rw [nb3 HK.out, HV.out]; simp [countB, groupB, a, c, d, e, f, g, h]⟩) HU3.out
  have n3 := hk
  clear hk
  by_cases hk : t.kind = 4
  · skip
    have k1 : (t.kind == 1) = false := by rw [hk]; rfl
    have k2 : (t.kind == 2) = false := by rw [hk]; rfl
    have k3 : (t.kind == 3) = false := by rw [hk]; rfl
    have k4 : (t.kind == 4) = true := by rw [hk]; rfl
    have HK := hideP hk
    clear hk
    by_cases h1 : 2 ≤ t.subs.length
    case neg =>
      have c1 : ¬ (2 : Int) ≤ (t.subs.length : Int) := by omega
      clear h1
      go_wp2_with fail
      try go_ret
      exact HP.out false _ (fun h => by cases h) HU.out
    have c1 : (2 : Int) ≤ (t.subs.length : Int) := by omega
    have H1 := hideP h1
    clear h1
    go_wp2_with (go_at_call 31; refine (bareX_4 t _ RA rc SA sc hrn hnl).mono ?_; rintro e w3 ⟨r, rfl, hq, hU3⟩; have HQ := hideP hq; have HU3 := hideP (HU.out.trans hU3 (fun _ _ h => h)); clear hU3 hq)
    try go_ret
    exact HP.out _ _ (fun h => .inl ⟨by have := HK.out; omega, by obtain ⟨a, b, d, e, f, g, h⟩ := HQ.out h; rw [nb4 (by have := HK.out; omega)]; simp [plainB, countB, groupB, a, b, d, e, f, g, h, H1.out]⟩) HU3.out
  have n4 := hk
  clear hk
  by_cases hk : t.kind = 5
  · skip
    have k1 : (t.kind == 1) = false := by rw [hk]; rfl
    have k2 : (t.kind == 2) = false := by rw [hk]; rfl
    have k3 : (t.kind == 3) = false := by rw [hk]; rfl
    have k4 : (t.kind == 4) = false := by rw [hk]; rfl
    have k5 : (t.kind == 5) = true := by rw [hk]; rfl
    have HK := hideP hk
    clear hk
    by_cases h1 : 2 ≤ t.subs.length
    case neg =>
      have c1 : ¬ (2 : Int) ≤ (t.subs.length : Int) := by omega
      clear h1
      go_wp2_with fail
      try go_ret
      exact HP.out false _ (fun h => by cases h) HU.out
    have c1 : (2 : Int) ≤ (t.subs.length : Int) := by omega
    have H1 := hideP h1
    clear h1
    go_wp2_with (go_at_call 31; refine (bareX_4 t _ RA rc SA sc hrn hnl).mono ?_; rintro e w3 ⟨r, rfl, hq, hU3⟩; have HQ := hideP hq; have HU3 := hideP (HU.out.trans hU3 (fun _ _ h => h)); clear hU3 hq)
    try go_ret
    exact HP.out _ _ (fun h => .inl ⟨by have := HK.out; omega, by obtain ⟨a, b, d, e, f, g, h⟩ := HQ.out h; rw [nb4 (by have := HK.out; omega)]; simp [plainB, countB, groupB, a, b, d, e, f, g, h, H1.out]⟩) HU3.out
  have n5 := hk
  clear hk
  by_cases hk : t.kind = 6
  · skip
    have k1 : (t.kind == 1) = false := by rw [hk]; rfl
    have k2 : (t.kind == 2) = false := by rw [hk]; rfl
    have k3 : (t.kind == 3) = false := by rw [hk]; rfl
    have k4 : (t.kind == 4) = false := by rw [hk]; rfl
    have k5 : (t.kind == 5) = false := by rw [hk]; rfl
    have k6 : (t.kind == 6) = true := by rw [hk]; rfl
    have HK := hideP hk
    clear hk
    go_upto_region 13 with fail
    go_cut [4] (fun v4 wc => (∃ b, v4 = .bool b ∧ (b = true → t.mx = -1 ∨ t.mn ≤ t.mx ∧ t.mx ≤ 1000)) ∧ w2 = wc)
    case first =>
      by_cases g1 : t.mx = -1
      · have cg1 : (t.mx == -1) = true := by simp [g1]
        have HG := hideP g1
        clear g1
        go_wp2_with fail
        go_meet
        exact ⟨⟨_, rfl, fun _ => .inl HG.out⟩, rfl⟩
      have cg1 : (t.mx == -1) = false := HE.out _ _ g1
      clear g1
      by_cases g2 : t.mn ≤ t.mx
      case neg =>
        go_wp2_with fail
        go_meet
        exact ⟨⟨_, rfl, fun h => by simp at h⟩, rfl⟩
      by_cases g3 : t.mx ≤ 1000
      case neg =>
        go_wp2_with fail
        go_meet
        exact ⟨⟨_, rfl, fun h => by simp at h⟩, rfl⟩
      have HG := hideP (And.intro g2 g3)
      go_wp2_with fail
      go_meet
      exact ⟨⟨_, rfl, fun _ => .inr HG.out⟩, rfl⟩
    case rest =>
    obtain ⟨⟨b4, rfl, hb4⟩, rfl⟩ := hcut
    have HB4 := hideP hb4
    clear hb4
    by_cases h1 : t.subs.length = 1
    case neg =>
      have c1 : ((t.subs.length : Int) == 1) = false := HE.out _ _ (by omega)
      clear h1
      go_wp2_with fail
      try go_ret
      exact HP.out false _ (fun h => by cases h) HU.out
    have c1 : ((t.subs.length : Int) == 1) = true := by simp [h1]
    have H1 := hideP h1
    clear h1
    by_cases h2 : 0 ≤ t.mn
    case neg =>
      go_wp2_with fail
      try go_ret
      exact HP.out false _ (fun h => by cases h) HU.out
    by_cases h3 : t.mn ≤ 1000
    case neg =>
      go_wp2_with fail
      try go_ret
      exact HP.out false _ (fun h => by cases h) HU.out
    have H2 := hideP (And.intro h2 h3)
    rcases b4 with _ | _
    case false =>
      go_wp2_with fail
      try go_ret
      exact HP.out false _ (fun h => by cases h) HU.out
    go_wp2_with (go_at_call 31; refine (bareX_6 t _ RA rc SA sc hrn hnl).mono ?_; rintro e w3 ⟨r, rfl, hq, hU3⟩; have HQ := hideP hq; have HU3 := hideP (HU.out.trans hU3 (fun _ _ h => h)); clear hU3 hq)
    try go_ret
    exact HP.out _ _ (fun h => .inl ⟨by have := HK.out; omega, by obtain ⟨a, b, d, e⟩ := HQ.out h; rw [nb6 HK.out, decide_eq_true (HB4.out (by trivial)), decide_eq_true H2.out]; simp [plainB, groupB, a, b, d, e, H1.out]⟩) HU3.out
  have n6 := hk
  clear hk
  by_cases hk : t.kind = 7
  · skip
    have k1 : (t.kind == 1) = false := by rw [hk]; rfl
    have k2 : (t.kind == 2) = false := by rw [hk]; rfl
    have k3 : (t.kind == 3) = false := by rw [hk]; rfl
    have k4 : (t.kind == 4) = false := by rw [hk]; rfl
    have k5 : (t.kind == 5) = false := by rw [hk]; rfl
    have k6 : (t.kind == 6) = false := by rw [hk]; rfl
    have k7 : (t.kind == 7) = true := by rw [hk]; rfl
    have HK := hideP hk
    clear hk
    go_upto_region 17 with (go_at_call 34; refine (refName_any _ t.nm hns).mono ?_; rintro e w9 ⟨rn, rfl, hrn9, rfl⟩; have HRN := hideP hrn9; clear hrn9)
    by_cases h1 : t.subs.length = 1
    case neg =>
      have c1 : ((t.subs.length : Int) == 1) = false := HE.out _ _ (by omega)
      clear h1
      go_wp2_with fail
      try go_ret
      exact HP.out false _ (fun h => by cases h) HU.out
    have c1 : ((t.subs.length : Int) == 1) = true := by simp [h1]
    have H1 := hideP h1
    clear h1
    by_cases h2 : 1 ≤ t.ix
    case neg =>
      go_wp2_with fail
      try go_ret
      exact HP.out false _ (fun h => by cases h) HU.out
    by_cases h3 : t.ix ≤ 500
    case neg =>
      go_wp2_with fail
      try go_ret
      exact HP.out false _ (fun h => by cases h) HU.out
    have H2 := hideP (And.intro h2 h3)
    rcases hn : t.nm.toList.isEmpty with _ | _
    · rcases rn with _ | _
      case false =>
        go_wp2_with fail
        try go_ret
        exact HP.out false _ (fun h => by cases h) HU.out
      have HN := hideP (HRN.out rfl)
      go_wp2_with (go_at_call 31; refine (bareX_7 t _ RA rc SA sc hrn hnl).mono ?_; rintro e w3 ⟨r, rfl, hq, hU3⟩; have HQ := hideP hq; have HU3 := hideP (HU.out.trans hU3 (fun _ _ h => h)); clear hU3 hq)
      try go_ret
      exact HP.out _ _ (fun h => .inr ⟨HK.out, by obtain ⟨a, b, d, e, f⟩ := HQ.out h; exact ⟨by simp [plainB, a, b], H1.out, by simp [countB, d, e, f], H2.out.1, H2.out.2, .inr HN.out⟩⟩) HU3.out
    · have HN := hideP hn
      go_wp2_with (go_at_call 31; refine (bareX_7 t _ RA rc SA sc hrn hnl).mono ?_; rintro e w3 ⟨r, rfl, hq, hU3⟩; have HQ := hideP hq; have HU3 := hideP (HU.out.trans hU3 (fun _ _ h => h)); clear hU3 hq)
      try go_ret
      exact HP.out _ _ (fun h => .inr ⟨HK.out, by obtain ⟨a, b, d, e, f⟩ := HQ.out h; exact ⟨by simp [plainB, a, b], H1.out, by simp [countB, d, e, f], H2.out.1, H2.out.2, .inl HN.out⟩⟩) HU3.out
  have n7 := hk
  clear hk
  have k1 := HE.out _ _ n1
  have k2 := HE.out _ _ n2
  have k3 := HE.out _ _ n3
  have k4 := HE.out _ _ n4
  have k5 := HE.out _ _ n5
  have k6 := HE.out _ _ n6
  have k7 := HE.out _ _ n7
  clear n1 n2 n3 n4 n5 n6 n7
  go_wp2_with fail
  try go_ret
  exact HP.out false _ (fun h => by cases h) HU.out
end Go.Proofs.Ytlaofcgllchedaa
