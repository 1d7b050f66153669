/-
  OwnColl, OwnFill, OwnApp, put together.
-/
import Derived.Test.YtdbdokjlcdogiaaDoorZ28Lend
import Derived.Test.YtdbdokjlcdogiaaDoorZ10TNum

/-
  The loops of heronlaw10.Owned that collect the rows. Printed by tools/mkOwn.py.
-/
namespace Go.Proofs.YtdbdokjlcdogiaaDoor
open Go.RowKit
set_option linter.unusedVariables false

theorem oinfo_sr : (Tryd.prog.info? 46).map (fun i => (i.zero, i.size, i.bytes)) = some (some (.slice none 0 0), 1, 24) := by kernel_rfl
theorem oinfo_si : (Tryd.prog.info? 22).map (fun i => (i.zero, i.size, i.bytes)) = some (some (.slice none 0 0), 1, 24) := by kernel_rfl
set_option maxRecDepth 100000 in
set_option maxHeartbeats 4000000 in
theorem own_collect (Q : Exit → Act → World → Prop) (K rest : Code) (w : World) (base lb cl : Nat) (ps : List Prg) (x1 x5 x6 x7 x8 x9 x10 x11 x12 x13 x14 x15 x16 x17 x18 x19 x20 x21 x22 x23 x24 x25 x26 x27 x28 x29 x30 x31 x32 x33 x34 x35 x36 x37 x38 x39 x40 x41 x42 x43 x44 x45 x46 x47 x48 x49 x50 x51 x52 x53 x54 x55 x56 x57 x58 x59 x60 x61 x62 x63 x64 x65 x66 x67 x68 x69 x70 x71 x72 x73 x74 x75 x76 x77 x78 x79 x80 x81 x82 x83 x84 x85 x86 x87 x88 x89 x90 x91 x92 x93 x94 x95 x96 x97 x98 x99 x100 x101 x102 x103 x104 x105 x106 x107 x108 x109 x110 x111 x112 x113 x114 x115 x116 x117 x118 x119 x120 x121 x122 x123 x124 x125 x126 x127 x128 x129 x130 x131 x132 x133 x134 x135 x136 x137 x138 x139 x140 x141 x142 x143 x144 x145 x146 x147 x148 x149 x150 x151 x152 x153 x154 x155 x156 x157 x158 x159 x160 x161 x162 x163 x164 x165 x166 x167 x168 x169 x170 x171 x172 x173 x174 x175 x176 x177 x178 x179 x180 x181 x182 x183 x184 x185 x186 x187 x188 x189 x190 x191 x192 x193 x194 : Value) (hK : Tryd.f17.body = some K)
    (h : Prgs w base ps) (hL : Cells w lb 24 (flatP ps).toArray)
    (hnext : ∀ (RA IA : Option Addr) (rc ic : Nat) (x1 x5 x6 x7 x8 x9 x10 x11 x12 x13 x14 x15 x16 x17 x18 x19 x20 x21 x22 x23 x24 x25 x26 x27 x28 x29 x30 x31 x32 x33 x34 x35 x36 x37 x38 x39 x40 x41 x42 x43 x44 x45 x46 x47 x48 x49 x50 x51 x52 x53 x54 x55 x56 x57 x58 x59 x60 x61 x62 x63 x64 x65 x66 x67 x68 x69 x70 x71 x72 x73 x74 x75 x76 x77 x78 x79 x80 x81 x82 x83 x84 x85 x86 x87 x88 x89 x90 x91 x92 x93 x94 x95 x96 x97 x98 x99 x100 x101 x102 x103 x104 x105 x106 x107 x108 x109 x110 x111 x112 x113 x114 x115 x116 x117 x118 x119 x120 x121 x122 x123 x124 x125 x126 x127 x128 x129 x130 x131 x132 x133 x134 x135 x136 x137 x138 x139 x140 x141 x142 x143 x144 x145 x146 x147 x148 x149 x150 x151 x152 x153 x154 x155 x156 x157 x158 x159 x160 x161 x162 x163 x164 x165 x166 x167 x168 x169 x170 x171 x172 x173 x174 x175 x176 x177 x178 x179 x180 x181 x182 x183 x184 x185 x186 x187 x188 x189 x190 x191 x192 x193 x194 : Value) (w' : World), w'.ownsRow w.heap.size 46 1 (.slice RA (allR ps).length rc) (allR ps).length ((allR ps).map rowV) ∧ w'.ownsRow w.heap.size 22 1 (.slice IA (allI ps).length ic) (allI ps).length ((allI ps).map rowV) → Upd Nob w w' → rest.wp Tryd.prog Q ⟨#[.slice (some ⟨lb, 0, none⟩) ps.length cl, x1, .bool false, .slice RA (allR ps).length rc, .slice IA (allI ps).length ic, x5, x6, x7, x8, x9, x10, x11, x12, x13, x14, x15, x16, x17, x18, x19, x20, x21, x22, x23, x24, x25, x26, x27, x28, x29, x30, x31, x32, x33, x34, x35, x36, x37, x38, x39, x40, x41, x42, x43, x44, x45, x46, x47, x48, x49, x50, x51, x52, x53, x54, x55, x56, x57, x58, x59, x60, x61, x62, x63, x64, x65, x66, x67, x68, x69, x70, x71, x72, x73, x74, x75, x76, x77, x78, x79, x80, x81, x82, x83, x84, x85, x86, x87, x88, x89, x90, x91, x92, x93, x94, x95, x96, x97, x98, x99, x100, x101, x102, x103, x104, x105, x106, x107, x108, x109, x110, x111, x112, x113, x114, x115, x116, x117, x118, x119, x120, x121, x122, x123, x124, x125, x126, x127, x128, x129, x130, x131, x132, x133, x134, x135, x136, x137, x138, x139, x140, x141, x142, x143, x144, x145, x146, x147, x148, x149, x150, x151, x152, x153, x154, x155, x156, x157, x158, x159, x160, x161, x162, x163, x164, x165, x166, x167, x168, x169, x170, x171, x172, x173, x174, x175, x176, x177, x178, x179, x180, x181, x182, x183, x184, x185, x186, x187, x188, x189, x190, x191, x192, x193, x194], []⟩ w') :
    (Code.seq (fstAt K 3) rest).wp Tryd.prog Q ⟨#[.slice (some ⟨lb, 0, none⟩) ps.length cl, x1, .bool false, .slice none 0 0, .slice none 0 0, x5, x6, x7, x8, x9, x10, x11, x12, x13, x14, x15, x16, x17, x18, x19, x20, x21, x22, x23, x24, x25, x26, x27, x28, x29, x30, x31, x32, x33, x34, x35, x36, x37, x38, x39, x40, x41, x42, x43, x44, x45, x46, x47, x48, x49, x50, x51, x52, x53, x54, x55, x56, x57, x58, x59, x60, x61, x62, x63, x64, x65, x66, x67, x68, x69, x70, x71, x72, x73, x74, x75, x76, x77, x78, x79, x80, x81, x82, x83, x84, x85, x86, x87, x88, x89, x90, x91, x92, x93, x94, x95, x96, x97, x98, x99, x100, x101, x102, x103, x104, x105, x106, x107, x108, x109, x110, x111, x112, x113, x114, x115, x116, x117, x118, x119, x120, x121, x122, x123, x124, x125, x126, x127, x128, x129, x130, x131, x132, x133, x134, x135, x136, x137, x138, x139, x140, x141, x142, x143, x144, x145, x146, x147, x148, x149, x150, x151, x152, x153, x154, x155, x156, x157, x158, x159, x160, x161, x162, x163, x164, x165, x166, x167, x168, x169, x170, x171, x172, x173, x174, x175, x176, x177, x178, x179, x180, x181, x182, x183, x184, x185, x186, x187, x188, x189, x190, x191, x192, x193, x194], []⟩ w := by
  injection hK with hK
  subst hK
  obtain ⟨r0, hr0, hr0z0, hr0z1, hr0z2⟩ := info_parts oinfo_sr
  obtain ⟨s0, hs0, hs0z0, hs0z1, hs0z2⟩ := info_parts oinfo_si
  have H := hideP h
  have HL := hideP hL
  have HN := hideP hnext
  have hps := h.len
  clear h hnext hL
  simp only [fstAt]
  go_wp2_with fail
  go_loopg [3, 4, 5] ps.length (fun gk v3 v4 v5 wr => ∃ (i rc ic : Nat) (RA IA : Option Addr) (LR LI : List Row3), i + gk = ps.length ∧ v5 = .int .i64 (i : Int) ∧ v3 = .slice RA LR.length rc ∧ v4 = .slice IA LI.length ic ∧ LR = allR (ps.take i) ∧ LI = allI (ps.take i) ∧ wr.ownsRow w.heap.size 46 1 (.slice RA LR.length rc) LR.length (LR.map rowV) ∧ wr.ownsRow w.heap.size 22 1 (.slice IA LI.length ic) LI.length (LI.map rowV) ∧ Upd Nob w wr)
  case atStart => exact ⟨0, 0, 0, none, none, [], [], by omega, rfl, rfl, rfl, rfl, rfl, World.ownsRow_nil _ _ _ _, World.ownsRow_nil _ _ _ _, Upd.refl _ _⟩
  case round =>
    obtain ⟨i, rc, ic, RA, IA, LR, LI, hk, rfl, rfl, rfl, hLR, hLI, hRL, hIL, hU⟩ := hrel
    have HLR := hideP hLR
    have HLI := hideP hLI
    clear hLR hLI
    have HRL := hideP hRL
    have HIL := hideP hIL
    have HU := hideP hU
    have HK := hideP hk
    clear hRL hIL hU hk
    by_cases hlt : ¬ i < ps.length
    · obtain rfl : i = ps.length := by have := HK.out; omega
      have e1 : ps.take ps.length = ps := List.take_length
      obtain rfl : LR = allR ps := by rw [HLR.out, e1]
      obtain rfl : LI = allI ps := by rw [HLI.out, e1]
      go_wp2_with fail
      exact HN.out RA IA rc ic _ _ _ _ _ _ _ _ _ _ _ _ _ _ _ _ _ _ _ _ _ _ _ _ _ _ _ _ _ _ _ _ _ _ _ _ _ _ _ _ _ _ _ _ _ _ _ _ _ _ _ _ _ _ _ _ _ _ _ _ _ _ _ _ _ _ _ _ _ _ _ _ _ _ _ _ _ _ _ _ _ _ _ _ _ _ _ _ _ _ _ _ _ _ _ _ _ _ _ _ _ _ _ _ _ _ _ _ _ _ _ _ _ _ _ _ _ _ _ _ _ _ _ _ _ _ _ _ _ _ _ _ _ _ _ _ _ _ _ _ _ _ _ _ _ _ _ _ _ _ _ _ _ _ _ _ _ _ _ _ _ _ _ _ _ _ _ _ _ _ _ _ _ _ _ _ _ _ _ _ _ _ _ _ _ _ _ _ _ _ _ _ ⟨HRL.out, HIL.out⟩ HU.out
    have hlt : i < ps.length := by omega
    obtain ⟨p, hp⟩ : ∃ p, ps[i]? = some p := ⟨_, List.getElem?_eq_getElem hlt⟩
    have HPI := hideP hp
    have hpm := List.mem_of_getElem? hp
    have g1 : (i : Int) < (ps.length : Int) := by omega
    have hcl := (HL.out.upd HU.out not_nob).cellv (i := i * 3) (by simpa using flatP_at ps i p hp)
    have hfew := H.out.few p hpm
    have HW := hideP (H.out.own p hpm)
    have hTi := H.out.lenT i
    clear hp
    go_wp2_with fail
    go_loopg [3, 6] p.is.length (fun gk2 v3 v6 wr => ∃ (k rc : Nat) (RA : Option Addr) (L2 : List Row3), k + gk2 = p.is.length ∧ v6 = .int .i64 (k : Int) ∧ v3 = .slice RA L2.length rc ∧ L2 = LR ++ (rowsOf p).take k ∧ wr.ownsRow w.heap.size 46 1 (.slice RA L2.length rc) L2.length (L2.map rowV) ∧ wr.ownsRow w.heap.size 22 1 (.slice IA LI.length ic) LI.length (LI.map rowV) ∧ Upd Nob w wr)
    case atStart => exact ⟨0, rc, RA, LR, by omega, rfl, rfl, by simp, HRL.out, HIL.out, HU.out⟩
    case round =>
      obtain ⟨k, rc2, RA2, L2, hk2, rfl, rfl, hL2, hRL2, hIL2, hU2⟩ := hrel
      have HL2 := hideP hL2
      clear hL2
      have HRL2 := hideP hRL2
      have HIL2 := hideP hIL2
      have HU2 := hideP hU2
      have HK2 := hideP hk2
      have hs2 := hU2.size
      clear hRL2 hIL2 hU2 hk2
      have hcl2 := (HL.out.upd HU2.out not_nob).cellv (i := i * 3) (by simpa using flatP_at ps i p HPI.out)
      by_cases hkn : ¬ k < p.is.length
      · obtain rfl : k = p.is.length := by have := HK2.out; omega
        have e2 : (rowsOf p).take p.is.length = rowsOf p := by rw [List.take_of_length_le]; rw [rowsOf_len HW.out.len]; exact Nat.le_refl _
        have E6 := hideP (show L2 = allR (ps.take (i + 1)) from by rw [HL2.out, e2, HLR.out, allR_more HPI.out])
        have hTi2 : LI.length ≤ 3 := by rw [HLI.out]; simp [allI]; omega
        go_wp2_with (at_builtin; refine wpList_append_lies _ rfl _ _ 69 rfl w.heap.size 22 s0 _ 1 24 Tryd.underlying69 hs0 hs0z0 hs0z1 hs0z2 rfl (by decide) (.slice IA LI.length ic) (LI.length) (LI.map rowV) rfl (own_upd HIL2.out ((Upd.refl Nob wr).alloc _) (fun _ _ => not_nob)) ⟨wr.heap.size, 0, none⟩ 1 1 [.slice p.A p.is.length p.c] rfl rfl (World.news_of_block (cs := #[.slice p.A p.is.length p.c]) (t := 22) (fr := (0, 0)) (heap_alloc_new wr _)) (by intro u hu; simp at hu; rcases hu with rfl; rfl) (by decide) (by unfold maxLen; omega) (by omega) (by simp; omega) (wr.heap.size + 1) (by simp) ?_)
        intro gN cN wN oN gr hat hltN
        have UN := (HU2.out.alloc (.cells #[.slice p.A p.is.length p.c] 22)).grown gr (fun b hb h => absurd h (by have := own_lo HIL2.out hb; omega))
        have UB := ((Upd.refl (fun b => (Value.slice IA LI.length ic).ownBlock = some b) wr).alloc (.cells #[.slice p.A p.is.length p.c] 22)).grown gr (fun b hb _ => hb)
        have HRN := hideP (own_upd HRL2.out UB (fun b hb hb2 => own_types HRL2.out HIL2.out (by decide) hb2 hb))
        have e3 : LI.map rowV ++ [.slice p.A p.is.length p.c] = (LI ++ [rowI p]).map rowV := by rw [List.map_append]; rfl
        have e4 : LI.length + 1 = (LI ++ [rowI p]).length := by simp
        rw [e3, e4] at oN
        rw [e4]
        have e7 : LI ++ [rowI p] = allI (ps.take (i + 1)) := by rw [HLI.out, allI_more HPI.out]
        generalize LI ++ [rowI p] = LI3 at *
        have E7 := hideP e7
        clear e7 e3 e4
        have HIN := hideP oN
        have HUN := hideP UN
        clear oN gr hat UB UN
        go_wp2_with fail
        go_roundg (ps.length - (i + 1))
        case measure => have := HK.out; omega
        case rel => exact ⟨i + 1, rc2, cN, RA2, some ⟨gN, 0, none⟩, L2, LI3, by have := HK.out; omega, by go_num, rfl, rfl, E6.out, E7.out, HRN.out, HIN.out, HUN.out⟩
      have hkn : k < p.is.length := by omega
      have g2 : (k : Int) < (p.is.length : Int) := by omega
      obtain ⟨x, hx⟩ : ∃ x, p.is[k]? = some x := ⟨_, List.getElem?_eq_getElem hkn⟩
      obtain ⟨B, cc, hg, hrw⟩ := rowsOf_at HW.out.len hx
      have HWs := HW.out.upd HU2.out (fun _ _ => not_nob)
      obtain ⟨gA, hA, hci⟩ := HWs.inst_cell hx hg
      have hTk : L2.length ≤ 200000 := by rw [HL2.out, HLR.out]; simp; omega
      have hpA : p.A = some ⟨gA, 0, none⟩ := hA
      rw [hA] at hcl2
      go_wp2_with (at_builtin; refine wpList_append_lies _ rfl _ _ 68 rfl w.heap.size 46 r0 _ 1 24 Tryd.underlying68 hr0 hr0z0 hr0z1 hr0z2 rfl (by decide) (.slice RA2 L2.length rc2) (L2.length) (L2.map rowV) rfl (own_upd HRL2.out ((Upd.refl Nob wr).alloc _) (fun _ _ => not_nob)) ⟨wr.heap.size, 0, none⟩ 1 1 [.slice B x.rs.length cc] rfl rfl (World.news_of_block (cs := #[.slice B x.rs.length cc]) (t := 46) (fr := (0, 0)) (heap_alloc_new wr _)) (by intro u hu; simp at hu; rcases hu with rfl; rfl) (by decide) (by unfold maxLen; omega) (by omega) (by simp; omega) (wr.heap.size + 1) (by simp) ?_)
      intro gN cN wN oN gr hat hltN
      have UN := (HU2.out.alloc (.cells #[.slice B x.rs.length cc] 46)).grown gr (fun b hb h => absurd h (by have := own_lo HRL2.out hb; omega))
      have UB := ((Upd.refl (fun b => (Value.slice RA2 L2.length rc2).ownBlock = some b) wr).alloc (.cells #[.slice B x.rs.length cc] 46)).grown gr (fun b hb _ => hb)
      have HIN := hideP (own_upd HIL2.out UB (fun b hb hb2 => own_types HIL2.out HRL2.out (by decide) hb2 hb))
      have e4 : L2.map rowV ++ [.slice B x.rs.length cc] = (L2 ++ [(B, x.rs.length, cc)]).map rowV := by rw [List.map_append]; rfl
      have e5 : L2.length + 1 = (L2 ++ [(B, x.rs.length, cc)]).length := by simp
      rw [e4, e5] at oN
      rw [e5]
      have e7 : L2 ++ [(B, x.rs.length, cc)] = LR ++ (rowsOf p).take (k + 1) := by rw [HL2.out, List.take_add_one, hrw, List.append_assoc]; rfl
      generalize L2 ++ [(B, x.rs.length, cc)] = L3 at *
      have E7 := hideP e7
      clear e7 e4 e5
      have HRN := hideP oN
      have HUN := hideP UN
      clear oN gr hat UB UN
      go_wp2_with fail
      go_roundg (p.is.length - (k + 1))
      case measure => have := HK2.out; omega
      case rel => exact ⟨k + 1, cN, some ⟨gN, 0, none⟩, L3, by have := HK2.out; omega, by go_num, rfl, E7.out, HRN.out, HIN.out, HUN.out⟩
end Go.Proofs.YtdbdokjlcdogiaaDoor

/-
  The loops of heronlaw10.Owned that fill the rows. Printed by tools/mkOwn.py.
-/
namespace Go.Proofs.YtdbdokjlcdogiaaDoor
open Go.RowKit
set_option linter.unusedVariables false

theorem oinfo_range : (Tryd.prog.info? 50).map (fun i => (i.zero, i.size, i.bytes)) = some (some (.agg #[.int .i64 0, .int .i64 0]), 2, 16) := by kernel_rfl
set_option maxRecDepth 100000 in
set_option maxHeartbeats 4000000 in
theorem own_fillR (Q : Exit → Act → World → Prop) (K rest : Code) (w : World) (base rc ic : Nat) (RA IA : Option Addr) (rows irows : List Row3) (x0 x1 x5 x6 x7 x8 x9 x10 x11 x12 x13 x14 x15 x16 x17 x18 x19 x20 x21 x22 x23 x24 x25 x26 x27 x28 x29 x30 x31 x32 x33 x34 x35 x36 x37 x38 x39 x40 x41 x42 x43 x44 x45 x46 x47 x48 x49 x50 x51 x52 x53 x54 x55 x56 x57 x58 x59 x60 x61 x62 x63 x64 x65 x66 x67 x68 x69 x70 x71 x72 x73 x74 x75 x76 x77 x78 x79 x80 x81 x82 x83 x84 x85 x86 x87 x88 x89 x90 x91 x92 x93 x94 x95 x96 x97 x98 x99 x100 x101 x102 x103 x104 x105 x106 x107 x108 x109 x110 x111 x112 x113 x114 x115 x116 x117 x118 x119 x120 x121 x122 x123 x124 x125 x126 x127 x128 x129 x130 x131 x132 x133 x134 x135 x136 x137 x138 x139 x140 x141 x142 x143 x144 x145 x146 x147 x148 x149 x150 x151 x152 x153 x154 x155 x156 x157 x158 x159 x160 x161 x162 x163 x164 x165 x166 x167 x168 x169 x170 x171 x172 x173 x174 x175 x176 x177 x178 x179 x180 x181 x182 x183 x184 x185 x186 x187 x188 x189 x190 x191 x192 x193 x194 : Value) (hK : Tryd.f17.body = some K) (h : St w base RA rc rows 0 0 IA ic irows 0 0) (hl : rows.length ≤ 1000000)
    (hnext : ∀ (x0 x1 x5 x6 x7 x8 x9 x10 x11 x12 x13 x14 x15 x16 x17 x18 x19 x20 x21 x22 x23 x24 x25 x26 x27 x28 x29 x30 x31 x32 x33 x34 x35 x36 x37 x38 x39 x40 x41 x42 x43 x44 x45 x46 x47 x48 x49 x50 x51 x52 x53 x54 x55 x56 x57 x58 x59 x60 x61 x62 x63 x64 x65 x66 x67 x68 x69 x70 x71 x72 x73 x74 x75 x76 x77 x78 x79 x80 x81 x82 x83 x84 x85 x86 x87 x88 x89 x90 x91 x92 x93 x94 x95 x96 x97 x98 x99 x100 x101 x102 x103 x104 x105 x106 x107 x108 x109 x110 x111 x112 x113 x114 x115 x116 x117 x118 x119 x120 x121 x122 x123 x124 x125 x126 x127 x128 x129 x130 x131 x132 x133 x134 x135 x136 x137 x138 x139 x140 x141 x142 x143 x144 x145 x146 x147 x148 x149 x150 x151 x152 x153 x154 x155 x156 x157 x158 x159 x160 x161 x162 x163 x164 x165 x166 x167 x168 x169 x170 x171 x172 x173 x174 x175 x176 x177 x178 x179 x180 x181 x182 x183 x184 x185 x186 x187 x188 x189 x190 x191 x192 x193 x194 : Value) (w' : World), St w' base RA rc rows rows.length 0 IA ic irows 0 0 → Upd (fun b => base ≤ b) w w' → rest.wp Tryd.prog Q ⟨#[x0, x1, .bool false, .slice RA rows.length rc, .slice IA irows.length ic, x5, x6, x7, x8, x9, x10, x11, x12, x13, x14, x15, x16, x17, x18, x19, x20, x21, x22, x23, x24, x25, x26, x27, x28, x29, x30, x31, x32, x33, x34, x35, x36, x37, x38, x39, x40, x41, x42, x43, x44, x45, x46, x47, x48, x49, x50, x51, x52, x53, x54, x55, x56, x57, x58, x59, x60, x61, x62, x63, x64, x65, x66, x67, x68, x69, x70, x71, x72, x73, x74, x75, x76, x77, x78, x79, x80, x81, x82, x83, x84, x85, x86, x87, x88, x89, x90, x91, x92, x93, x94, x95, x96, x97, x98, x99, x100, x101, x102, x103, x104, x105, x106, x107, x108, x109, x110, x111, x112, x113, x114, x115, x116, x117, x118, x119, x120, x121, x122, x123, x124, x125, x126, x127, x128, x129, x130, x131, x132, x133, x134, x135, x136, x137, x138, x139, x140, x141, x142, x143, x144, x145, x146, x147, x148, x149, x150, x151, x152, x153, x154, x155, x156, x157, x158, x159, x160, x161, x162, x163, x164, x165, x166, x167, x168, x169, x170, x171, x172, x173, x174, x175, x176, x177, x178, x179, x180, x181, x182, x183, x184, x185, x186, x187, x188, x189, x190, x191, x192, x193, x194], []⟩ w') :
    (Code.seq (fstAt K 4) rest).wp Tryd.prog Q ⟨#[x0, x1, .bool false, .slice RA rows.length rc, .slice IA irows.length ic, x5, x6, x7, x8, x9, x10, x11, x12, x13, x14, x15, x16, x17, x18, x19, x20, x21, x22, x23, x24, x25, x26, x27, x28, x29, x30, x31, x32, x33, x34, x35, x36, x37, x38, x39, x40, x41, x42, x43, x44, x45, x46, x47, x48, x49, x50, x51, x52, x53, x54, x55, x56, x57, x58, x59, x60, x61, x62, x63, x64, x65, x66, x67, x68, x69, x70, x71, x72, x73, x74, x75, x76, x77, x78, x79, x80, x81, x82, x83, x84, x85, x86, x87, x88, x89, x90, x91, x92, x93, x94, x95, x96, x97, x98, x99, x100, x101, x102, x103, x104, x105, x106, x107, x108, x109, x110, x111, x112, x113, x114, x115, x116, x117, x118, x119, x120, x121, x122, x123, x124, x125, x126, x127, x128, x129, x130, x131, x132, x133, x134, x135, x136, x137, x138, x139, x140, x141, x142, x143, x144, x145, x146, x147, x148, x149, x150, x151, x152, x153, x154, x155, x156, x157, x158, x159, x160, x161, x162, x163, x164, x165, x166, x167, x168, x169, x170, x171, x172, x173, x174, x175, x176, x177, x178, x179, x180, x181, x182, x183, x184, x185, x186, x187, x188, x189, x190, x191, x192, x193, x194], []⟩ w := by
  injection hK with hK
  subst hK
  have H := hideP h
  have HN := hideP hnext
  clear h hnext
  simp only [fstAt]
  go_wp2_with fail
  go_loopg [7] rows.length (fun gk v7 wr => ∃ (i : Nat), i + gk = rows.length ∧ v7 = .int .i64 (i : Int) ∧ St wr base RA rc rows i 0 IA ic irows 0 0 ∧ Upd (fun b => base ≤ b) w wr)
  case atStart => exact ⟨0, by omega, rfl, H.out, Upd.refl _ _⟩
  case round =>
    obtain ⟨i, hk, rfl, hS, hU⟩ := hrel
    have HS := hideP hS
    have HU := hideP hU
    have HK := hideP hk
    clear hS hU hk
    by_cases hlt : ¬ i < rows.length
    · obtain rfl : i = rows.length := by have := HK.out; omega
      go_wp2_with fail
      exact HN.out _ _ _ _ _ _ _ _ _ _ _ _ _ _ _ _ _ _ _ _ _ _ _ _ _ _ _ _ _ _ _ _ _ _ _ _ _ _ _ _ _ _ _ _ _ _ _ _ _ _ _ _ _ _ _ _ _ _ _ _ _ _ _ _ _ _ _ _ _ _ _ _ _ _ _ _ _ _ _ _ _ _ _ _ _ _ _ _ _ _ _ _ _ _ _ _ _ _ _ _ _ _ _ _ _ _ _ _ _ _ _ _ _ _ _ _ _ _ _ _ _ _ _ _ _ _ _ _ _ _ _ _ _ _ _ _ _ _ _ _ _ _ _ _ _ _ _ _ _ _ _ _ _ _ _ _ _ _ _ _ _ _ _ _ _ _ _ _ _ _ _ _ _ _ _ _ _ _ _ _ _ _ _ _ _ _ _ _ _ _ _ _ _ HS.out HU.out
    obtain ⟨⟨A, n, c⟩, hr⟩ : ∃ r, rows[i]? = some r := ⟨_, List.getElem?_eq_getElem (by omega)⟩
    have HR := hideP hr
    have hsm := HS.out.r.small _ (List.mem_of_getElem? hr)
    simp only at hsm
    clear hr
    have g1 : (i : Int) < (rows.length : Int) := by omega
    go_wp2_with fail
    go_loopg [8] n (fun gk2 v8 ws => ∃ (k : Nat), k + gk2 = n ∧ v8 = .int .i64 (k : Int) ∧ St ws base RA rc rows i k IA ic irows 0 0 ∧ Upd (fun b => base ≤ b) w ws)
    case atStart => exact ⟨0, by omega, rfl, HS.out, HU.out⟩
    case round =>
      obtain ⟨k, hk2, rfl, hS2, hU2⟩ := hrel
      have HS2 := hideP hS2
      have HU2 := hideP hU2
      have HK2 := hideP hk2
      clear hS2 hU2 hk2
      obtain ⟨gR, hRA, hbR, hcR, hfR⟩ := list_cell HS2.out.rl HR.out
      unfold rowV at hcR
      subst hRA
      by_cases hkn : ¬ k < n
      · obtain rfl : k = n := by have := HK2.out; omega
        go_wp2_with fail
        go_roundg (rows.length - (i + 1))
        case measure => have := HK.out; omega
        case rel => exact ⟨i + 1, by have := HK.out; omega, by go_num, HS2.out.nextR HR.out rfl, HU2.out⟩
      have hkn : k < n := by omega
      have g2 : (k : Int) < (n : Int) := by omega
      obtain ⟨g, hA, hbg, hce⟩ := HS2.out.r.cell HR.out hkn (by omega)
      subst hA
      have vw : IntKind.i64.wrap (-1 - (i : Int)) = -1 - (i : Int) := by rw [IntKind.wrap_i64]; omega
      obtain ⟨⟨u0, c0⟩, f0⟩ := hce 0 (by omega)
      obtain ⟨⟨u1, c1⟩, f1⟩ := hce 1 (by omega)
      rw [Nat.add_zero] at c0 f0
      clear hce
      go_wp2_with fail
      go_roundg (n - (k + 1))
      case measure => have := HK2.out; omega
      case rel => exact ⟨k + 1, by have := HK2.out; omega, by go_num, HS2.out.putR HR.out hkn, Upd.setCell (Upd.setCell (HU2.out) ⟨g, k * 2, none⟩ (.int .i64 (-1 - (i : Int))) (fun _ => hbg)) ⟨g, k * 2 + 1, none⟩ (.int .i64 0) (fun _ => hbg)⟩
set_option maxRecDepth 100000 in
set_option maxHeartbeats 4000000 in
theorem own_fillI (Q : Exit → Act → World → Prop) (K rest : Code) (w : World) (base rc ic : Nat) (RA IA : Option Addr) (rows irows : List Row3) (x0 x1 x5 x6 x7 x8 x9 x10 x11 x12 x13 x14 x15 x16 x17 x18 x19 x20 x21 x22 x23 x24 x25 x26 x27 x28 x29 x30 x31 x32 x33 x34 x35 x36 x37 x38 x39 x40 x41 x42 x43 x44 x45 x46 x47 x48 x49 x50 x51 x52 x53 x54 x55 x56 x57 x58 x59 x60 x61 x62 x63 x64 x65 x66 x67 x68 x69 x70 x71 x72 x73 x74 x75 x76 x77 x78 x79 x80 x81 x82 x83 x84 x85 x86 x87 x88 x89 x90 x91 x92 x93 x94 x95 x96 x97 x98 x99 x100 x101 x102 x103 x104 x105 x106 x107 x108 x109 x110 x111 x112 x113 x114 x115 x116 x117 x118 x119 x120 x121 x122 x123 x124 x125 x126 x127 x128 x129 x130 x131 x132 x133 x134 x135 x136 x137 x138 x139 x140 x141 x142 x143 x144 x145 x146 x147 x148 x149 x150 x151 x152 x153 x154 x155 x156 x157 x158 x159 x160 x161 x162 x163 x164 x165 x166 x167 x168 x169 x170 x171 x172 x173 x174 x175 x176 x177 x178 x179 x180 x181 x182 x183 x184 x185 x186 x187 x188 x189 x190 x191 x192 x193 x194 : Value) (hK : Tryd.f17.body = some K) (h : St w base RA rc rows rows.length 0 IA ic irows 0 0) (hl : irows.length ≤ 1000000)
    (hnext : ∀ (x0 x1 x5 x6 x7 x8 x9 x10 x11 x12 x13 x14 x15 x16 x17 x18 x19 x20 x21 x22 x23 x24 x25 x26 x27 x28 x29 x30 x31 x32 x33 x34 x35 x36 x37 x38 x39 x40 x41 x42 x43 x44 x45 x46 x47 x48 x49 x50 x51 x52 x53 x54 x55 x56 x57 x58 x59 x60 x61 x62 x63 x64 x65 x66 x67 x68 x69 x70 x71 x72 x73 x74 x75 x76 x77 x78 x79 x80 x81 x82 x83 x84 x85 x86 x87 x88 x89 x90 x91 x92 x93 x94 x95 x96 x97 x98 x99 x100 x101 x102 x103 x104 x105 x106 x107 x108 x109 x110 x111 x112 x113 x114 x115 x116 x117 x118 x119 x120 x121 x122 x123 x124 x125 x126 x127 x128 x129 x130 x131 x132 x133 x134 x135 x136 x137 x138 x139 x140 x141 x142 x143 x144 x145 x146 x147 x148 x149 x150 x151 x152 x153 x154 x155 x156 x157 x158 x159 x160 x161 x162 x163 x164 x165 x166 x167 x168 x169 x170 x171 x172 x173 x174 x175 x176 x177 x178 x179 x180 x181 x182 x183 x184 x185 x186 x187 x188 x189 x190 x191 x192 x193 x194 : Value) (w' : World), St w' base RA rc rows rows.length 0 IA ic irows irows.length 0 → Upd (fun b => base ≤ b) w w' → rest.wp Tryd.prog Q ⟨#[x0, x1, .bool false, .slice RA rows.length rc, .slice IA irows.length ic, x5, x6, x7, x8, x9, x10, x11, x12, x13, x14, x15, x16, x17, x18, x19, x20, x21, x22, x23, x24, x25, x26, x27, x28, x29, x30, x31, x32, x33, x34, x35, x36, x37, x38, x39, x40, x41, x42, x43, x44, x45, x46, x47, x48, x49, x50, x51, x52, x53, x54, x55, x56, x57, x58, x59, x60, x61, x62, x63, x64, x65, x66, x67, x68, x69, x70, x71, x72, x73, x74, x75, x76, x77, x78, x79, x80, x81, x82, x83, x84, x85, x86, x87, x88, x89, x90, x91, x92, x93, x94, x95, x96, x97, x98, x99, x100, x101, x102, x103, x104, x105, x106, x107, x108, x109, x110, x111, x112, x113, x114, x115, x116, x117, x118, x119, x120, x121, x122, x123, x124, x125, x126, x127, x128, x129, x130, x131, x132, x133, x134, x135, x136, x137, x138, x139, x140, x141, x142, x143, x144, x145, x146, x147, x148, x149, x150, x151, x152, x153, x154, x155, x156, x157, x158, x159, x160, x161, x162, x163, x164, x165, x166, x167, x168, x169, x170, x171, x172, x173, x174, x175, x176, x177, x178, x179, x180, x181, x182, x183, x184, x185, x186, x187, x188, x189, x190, x191, x192, x193, x194], []⟩ w') :
    (Code.seq (fstAt K 6) rest).wp Tryd.prog Q ⟨#[x0, x1, .bool false, .slice RA rows.length rc, .slice IA irows.length ic, x5, x6, x7, x8, x9, x10, x11, x12, x13, x14, x15, x16, x17, x18, x19, x20, x21, x22, x23, x24, x25, x26, x27, x28, x29, x30, x31, x32, x33, x34, x35, x36, x37, x38, x39, x40, x41, x42, x43, x44, x45, x46, x47, x48, x49, x50, x51, x52, x53, x54, x55, x56, x57, x58, x59, x60, x61, x62, x63, x64, x65, x66, x67, x68, x69, x70, x71, x72, x73, x74, x75, x76, x77, x78, x79, x80, x81, x82, x83, x84, x85, x86, x87, x88, x89, x90, x91, x92, x93, x94, x95, x96, x97, x98, x99, x100, x101, x102, x103, x104, x105, x106, x107, x108, x109, x110, x111, x112, x113, x114, x115, x116, x117, x118, x119, x120, x121, x122, x123, x124, x125, x126, x127, x128, x129, x130, x131, x132, x133, x134, x135, x136, x137, x138, x139, x140, x141, x142, x143, x144, x145, x146, x147, x148, x149, x150, x151, x152, x153, x154, x155, x156, x157, x158, x159, x160, x161, x162, x163, x164, x165, x166, x167, x168, x169, x170, x171, x172, x173, x174, x175, x176, x177, x178, x179, x180, x181, x182, x183, x184, x185, x186, x187, x188, x189, x190, x191, x192, x193, x194], []⟩ w := by
  injection hK with hK
  subst hK
  have H := hideP h
  have HN := hideP hnext
  clear h hnext
  simp only [fstAt]
  go_wp2_with fail
  go_loopg [10] irows.length (fun gk v7 wr => ∃ (i : Nat), i + gk = irows.length ∧ v7 = .int .i64 (i : Int) ∧ St wr base RA rc rows rows.length 0 IA ic irows i 0 ∧ Upd (fun b => base ≤ b) w wr)
  case atStart => exact ⟨0, by omega, rfl, H.out, Upd.refl _ _⟩
  case round =>
    obtain ⟨i, hk, rfl, hS, hU⟩ := hrel
    have HS := hideP hS
    have HU := hideP hU
    have HK := hideP hk
    clear hS hU hk
    by_cases hlt : ¬ i < irows.length
    · obtain rfl : i = irows.length := by have := HK.out; omega
      go_wp2_with fail
      exact HN.out _ _ _ _ _ _ _ _ _ _ _ _ _ _ _ _ _ _ _ _ _ _ _ _ _ _ _ _ _ _ _ _ _ _ _ _ _ _ _ _ _ _ _ _ _ _ _ _ _ _ _ _ _ _ _ _ _ _ _ _ _ _ _ _ _ _ _ _ _ _ _ _ _ _ _ _ _ _ _ _ _ _ _ _ _ _ _ _ _ _ _ _ _ _ _ _ _ _ _ _ _ _ _ _ _ _ _ _ _ _ _ _ _ _ _ _ _ _ _ _ _ _ _ _ _ _ _ _ _ _ _ _ _ _ _ _ _ _ _ _ _ _ _ _ _ _ _ _ _ _ _ _ _ _ _ _ _ _ _ _ _ _ _ _ _ _ _ _ _ _ _ _ _ _ _ _ _ _ _ _ _ _ _ _ _ _ _ _ _ _ _ _ _ HS.out HU.out
    obtain ⟨⟨A, n, c⟩, hr⟩ : ∃ r, irows[i]? = some r := ⟨_, List.getElem?_eq_getElem (by omega)⟩
    have HR := hideP hr
    have hsm := HS.out.n.small _ (List.mem_of_getElem? hr)
    simp only at hsm
    clear hr
    have g1 : (i : Int) < (irows.length : Int) := by omega
    go_wp2_with fail
    go_loopg [11] n (fun gk2 v8 ws => ∃ (k : Nat), k + gk2 = n ∧ v8 = .int .i64 (k : Int) ∧ St ws base RA rc rows rows.length 0 IA ic irows i k ∧ Upd (fun b => base ≤ b) w ws)
    case atStart => exact ⟨0, by omega, rfl, HS.out, HU.out⟩
    case round =>
      obtain ⟨k, hk2, rfl, hS2, hU2⟩ := hrel
      have HS2 := hideP hS2
      have HU2 := hideP hU2
      have HK2 := hideP hk2
      clear hS2 hU2 hk2
      obtain ⟨gR, hRA, hbR, hcR, hfR⟩ := list_cell HS2.out.il HR.out
      unfold rowV at hcR
      subst hRA
      by_cases hkn : ¬ k < n
      · obtain rfl : k = n := by have := HK2.out; omega
        go_wp2_with fail
        go_roundg (irows.length - (i + 1))
        case measure => have := HK.out; omega
        case rel => exact ⟨i + 1, by have := HK.out; omega, by go_num, HS2.out.nextI HR.out rfl, HU2.out⟩
      have hkn : k < n := by omega
      have g2 : (k : Int) < (n : Int) := by omega
      obtain ⟨g, hA, hbg, hce⟩ := HS2.out.n.cell HR.out hkn (by omega)
      subst hA
      have vw : IntKind.i64.wrap (-1 - (i : Int)) = -1 - (i : Int) := by rw [IntKind.wrap_i64]; omega
      obtain ⟨⟨u0, c0⟩, f0⟩ := hce 0 (by omega)
      obtain ⟨⟨u1, c1⟩, f1⟩ := hce 1 (by omega)
      obtain ⟨⟨u2, c2⟩, f2⟩ := hce 2 (by omega)
      obtain ⟨⟨u3, c3⟩, f3⟩ := hce 3 (by omega)
      obtain ⟨⟨u4, c4⟩, f4⟩ := hce 4 (by omega)
      rw [Nat.add_zero] at c0 f0
      clear hce
      go_wp2_with fail
      go_roundg (n - (k + 1))
      case measure => have := HK2.out; omega
      case rel => exact ⟨k + 1, by have := HK2.out; omega, by go_num, HS2.out.putI HR.out hkn, Upd.setCell (Upd.setCell (Upd.setCell (Upd.setCell (Upd.setCell (HU2.out) ⟨g, k * 5, none⟩ (.int .i64 (-1 - (i : Int))) (fun _ => hbg)) ⟨g, k * 5 + 1, none⟩ (.int .i64 0) (fun _ => hbg)) ⟨g, k * 5 + 2, none⟩ (.int .i64 0) (fun _ => hbg)) ⟨g, k * 5 + 3, none⟩ (.int .i64 0) (fun _ => hbg)) ⟨g, k * 5 + 4, none⟩ (.slice none 0 0) (fun _ => hbg)⟩
end Go.Proofs.YtdbdokjlcdogiaaDoor

/-
  The loops of heronlaw10.Owned that let the rows grow. Printed by tools/mkOwn.py.
-/
namespace Go.Proofs.YtdbdokjlcdogiaaDoor
open Go.RowKit
set_option linter.unusedVariables false

set_option maxRecDepth 100000 in
set_option maxHeartbeats 4000000 in
theorem own_appR (Q : Exit → Act → World → Prop) (K rest : Code) (w : World) (base rc ic : Nat) (RA IA : Option Addr) (rows irows : List Row3) (x0 x1 x5 x6 x7 x8 x9 x10 x11 x12 x13 x14 x15 x16 x17 x18 x19 x20 x21 x22 x23 x24 x25 x26 x27 x28 x29 x30 x31 x32 x33 x34 x35 x36 x37 x38 x39 x40 x41 x42 x43 x44 x45 x46 x47 x48 x49 x50 x51 x52 x53 x54 x55 x56 x57 x58 x59 x60 x61 x62 x63 x64 x65 x66 x67 x68 x69 x70 x71 x72 x73 x74 x75 x76 x77 x78 x79 x80 x81 x82 x83 x84 x85 x86 x87 x88 x89 x90 x91 x92 x93 x94 x95 x96 x97 x98 x99 x100 x101 x102 x103 x104 x105 x106 x107 x108 x109 x110 x111 x112 x113 x114 x115 x116 x117 x118 x119 x120 x121 x122 x123 x124 x125 x126 x127 x128 x129 x130 x131 x132 x133 x134 x135 x136 x137 x138 x139 x140 x141 x142 x143 x144 x145 x146 x147 x148 x149 x150 x151 x152 x153 x154 x155 x156 x157 x158 x159 x160 x161 x162 x163 x164 x165 x166 x167 x168 x169 x170 x171 x172 x173 x174 x175 x176 x177 x178 x179 x180 x181 x182 x183 x184 x185 x186 x187 x188 x189 x190 x191 x192 x193 x194 : Value) (hK : Tryd.f17.body = some K) (h : St w base RA rc rows rows.length 0 IA ic irows 0 0) (hl : rows.length ≤ 1000000) (hsm : ∀ r ∈ rows, r.2.1 ≤ 9000000) (hbw : base ≤ w.heap.size)
    (hnext : ∀ (rows' : List Row3) (x0 x1 x5 x6 x7 x8 x9 x10 x11 x12 x13 x14 x15 x16 x17 x18 x19 x20 x21 x22 x23 x24 x25 x26 x27 x28 x29 x30 x31 x32 x33 x34 x35 x36 x37 x38 x39 x40 x41 x42 x43 x44 x45 x46 x47 x48 x49 x50 x51 x52 x53 x54 x55 x56 x57 x58 x59 x60 x61 x62 x63 x64 x65 x66 x67 x68 x69 x70 x71 x72 x73 x74 x75 x76 x77 x78 x79 x80 x81 x82 x83 x84 x85 x86 x87 x88 x89 x90 x91 x92 x93 x94 x95 x96 x97 x98 x99 x100 x101 x102 x103 x104 x105 x106 x107 x108 x109 x110 x111 x112 x113 x114 x115 x116 x117 x118 x119 x120 x121 x122 x123 x124 x125 x126 x127 x128 x129 x130 x131 x132 x133 x134 x135 x136 x137 x138 x139 x140 x141 x142 x143 x144 x145 x146 x147 x148 x149 x150 x151 x152 x153 x154 x155 x156 x157 x158 x159 x160 x161 x162 x163 x164 x165 x166 x167 x168 x169 x170 x171 x172 x173 x174 x175 x176 x177 x178 x179 x180 x181 x182 x183 x184 x185 x186 x187 x188 x189 x190 x191 x192 x193 x194 : Value) (w' : World), rows'.length = rows.length → St w' base RA rc rows' rows'.length 0 IA ic irows 0 0 → Upd (fun b => base ≤ b) w w' → rest.wp Tryd.prog Q ⟨#[x0, x1, .bool false, .slice RA rows.length rc, .slice IA irows.length ic, x5, x6, x7, x8, x9, x10, x11, x12, x13, x14, x15, x16, x17, x18, x19, x20, x21, x22, x23, x24, x25, x26, x27, x28, x29, x30, x31, x32, x33, x34, x35, x36, x37, x38, x39, x40, x41, x42, x43, x44, x45, x46, x47, x48, x49, x50, x51, x52, x53, x54, x55, x56, x57, x58, x59, x60, x61, x62, x63, x64, x65, x66, x67, x68, x69, x70, x71, x72, x73, x74, x75, x76, x77, x78, x79, x80, x81, x82, x83, x84, x85, x86, x87, x88, x89, x90, x91, x92, x93, x94, x95, x96, x97, x98, x99, x100, x101, x102, x103, x104, x105, x106, x107, x108, x109, x110, x111, x112, x113, x114, x115, x116, x117, x118, x119, x120, x121, x122, x123, x124, x125, x126, x127, x128, x129, x130, x131, x132, x133, x134, x135, x136, x137, x138, x139, x140, x141, x142, x143, x144, x145, x146, x147, x148, x149, x150, x151, x152, x153, x154, x155, x156, x157, x158, x159, x160, x161, x162, x163, x164, x165, x166, x167, x168, x169, x170, x171, x172, x173, x174, x175, x176, x177, x178, x179, x180, x181, x182, x183, x184, x185, x186, x187, x188, x189, x190, x191, x192, x193, x194], []⟩ w') :
    (Code.seq (fstAt K 5) rest).wp Tryd.prog Q ⟨#[x0, x1, .bool false, .slice RA rows.length rc, .slice IA irows.length ic, x5, x6, x7, x8, x9, x10, x11, x12, x13, x14, x15, x16, x17, x18, x19, x20, x21, x22, x23, x24, x25, x26, x27, x28, x29, x30, x31, x32, x33, x34, x35, x36, x37, x38, x39, x40, x41, x42, x43, x44, x45, x46, x47, x48, x49, x50, x51, x52, x53, x54, x55, x56, x57, x58, x59, x60, x61, x62, x63, x64, x65, x66, x67, x68, x69, x70, x71, x72, x73, x74, x75, x76, x77, x78, x79, x80, x81, x82, x83, x84, x85, x86, x87, x88, x89, x90, x91, x92, x93, x94, x95, x96, x97, x98, x99, x100, x101, x102, x103, x104, x105, x106, x107, x108, x109, x110, x111, x112, x113, x114, x115, x116, x117, x118, x119, x120, x121, x122, x123, x124, x125, x126, x127, x128, x129, x130, x131, x132, x133, x134, x135, x136, x137, x138, x139, x140, x141, x142, x143, x144, x145, x146, x147, x148, x149, x150, x151, x152, x153, x154, x155, x156, x157, x158, x159, x160, x161, x162, x163, x164, x165, x166, x167, x168, x169, x170, x171, x172, x173, x174, x175, x176, x177, x178, x179, x180, x181, x182, x183, x184, x185, x186, x187, x188, x189, x190, x191, x192, x193, x194], []⟩ w := by
  injection hK with hK
  subst hK
  obtain ⟨i0, hi0, hz0, hz1, hz2⟩ := info_parts oinfo_range
  have H := hideP h
  have HN := hideP hnext
  have HSM := hideP hsm
  clear h hnext hsm
  simp only [fstAt]
  go_wp2_with fail
  go_loopg [9] rows.length (fun gk v7 wr => ∃ (i : Nat) (rows' : List Row3), i + gk = rows.length ∧ v7 = .int .i64 (i : Int) ∧ rows'.length = rows.length ∧ (∀ j : Nat, i ≤ j → rows'[j]? = rows[j]?) ∧ St wr base RA rc rows' rows'.length 0 IA ic irows 0 0 ∧ Upd (fun b => base ≤ b) w wr)
  case atStart => exact ⟨0, rows, by omega, rfl, rfl, fun _ _ => rfl, H.out, Upd.refl _ _⟩
  case round =>
    obtain ⟨i, rows', hk, rfl, hlen, hsame, hS, hU⟩ := hrel
    have HS := hideP hS
    have HU := hideP hU
    have HK := hideP hk
    have HSAME := hideP hsame
    have hwr := hU.size
    clear hS hU hk hsame
    by_cases hlt : ¬ i < rows.length
    · obtain rfl : i = rows.length := by have := HK.out; omega
      go_wp2_with fail
      exact HN.out rows' _ _ _ _ _ _ _ _ _ _ _ _ _ _ _ _ _ _ _ _ _ _ _ _ _ _ _ _ _ _ _ _ _ _ _ _ _ _ _ _ _ _ _ _ _ _ _ _ _ _ _ _ _ _ _ _ _ _ _ _ _ _ _ _ _ _ _ _ _ _ _ _ _ _ _ _ _ _ _ _ _ _ _ _ _ _ _ _ _ _ _ _ _ _ _ _ _ _ _ _ _ _ _ _ _ _ _ _ _ _ _ _ _ _ _ _ _ _ _ _ _ _ _ _ _ _ _ _ _ _ _ _ _ _ _ _ _ _ _ _ _ _ _ _ _ _ _ _ _ _ _ _ _ _ _ _ _ _ _ _ _ _ _ _ _ _ _ _ _ _ _ _ _ _ _ _ _ _ _ _ _ _ _ _ _ _ _ _ _ _ _ _ _ hlen HS.out HU.out
    obtain ⟨⟨A, n, c⟩, hr⟩ : ∃ r, rows[i]? = some r := ⟨_, List.getElem?_eq_getElem (by omega)⟩
    have hn9 := HSM.out _ (List.mem_of_getElem? hr)
    simp only at hn9
    have hr2 : rows'[i]? = some (A, n, c) := (HSAME.out i (Nat.le_refl _)).trans hr
    have hil : i < rows'.length := by omega
    have HR := hideP hr2
    clear hr hr2
    have g1 : (i : Int) < (rows.length : Int) := by omega
    obtain ⟨gR, hRA, hbR, hcR, hfR⟩ := list_cell HS.out.rl HR.out
    unfold rowV at hcR
    subst hRA
    have vw : IntKind.i64.wrap (-1 - (i : Int)) = -1 - (i : Int) := by rw [IntKind.wrap_i64]; omega
    have HS2 := hideP (HS.out.upd ((Upd.refl Nob wr).alloc (.cells #[.int .i64 (-1 - (i : Int)), .int .i64 0, .int .i64 (-1 - (i : Int)), .int .i64 0] 50)))
    obtain ⟨xs, hx, hp⟩ := HS2.out.r.own i _ HR.out
    rw [if_pos hil] at hp
    unfold rowV at hx
    simp only at hx hp
    have HX := hideP hx
    have HP := hideP hp
    have hgl : gR < wr.heap.size := by
      obtain ⟨cur, hc, -⟩ := own_cells HS.out.rl (g := gR) rfl
      exact hc.lt
    clear hx hp
    go_wp2_with (at_builtin; refine wpList_append_lies _ rfl _ _ 46 rfl base 50 i0 _ 2 16 Tryd.underlying46 hi0 hz0 hz1 hz2 rfl (by decide) (.slice A n c) n xs rfl HX.out ⟨wr.heap.size, 0, none⟩ 2 2 #[.int .i64 (-1 - (i : Int)), .int .i64 0, .int .i64 (-1 - (i : Int)), .int .i64 0].toList rfl rfl (World.news_of_block (cs := #[.int .i64 (-1 - (i : Int)), .int .i64 0, .int .i64 (-1 - (i : Int)), .int .i64 0]) (t := 50) (fr := (0, 0)) (heap_alloc_new wr _)) (by intro u hu; simp at hu; rcases hu with rfl | rfl | rfl | rfl <;> rfl) (by decide) (by unfold maxLen; omega) (by omega) (by simp; omega) (wr.heap.size + 1) (by simp) ?_)
    intro gN cN wN oN gr hat hltN
    have OB := fun b (hb : (Value.slice A n c).ownBlock = some b) => own_lo HX.out hb
    have UB := (Upd.refl (fun b => (Value.slice A n c).ownBlock = some b) (wr.alloc (.cells #[.int .i64 (-1 - (i : Int)), .int .i64 0, .int .i64 (-1 - (i : Int)), .int .i64 0] 50))).grown gr (fun b hb _ => hb)
    have rl2 := own_upd HS2.out.rl UB (fun b hb hb2 => own_types HS2.out.rl HX.out (by decide) hb2 hb)
    obtain ⟨g2, hg2, -, hcR2, hfR2⟩ := list_cell rl2 HR.out
    obtain rfl : gR = g2 := by injection hg2 with e; injection e
    have UN := (HU.out.alloc (.cells #[.int .i64 (-1 - (i : Int)), .int .i64 0, .int .i64 (-1 - (i : Int)), .int .i64 0] 50)).grown gr (fun b hb _ => OB b hb)
    have HSN := hideP (HS2.out.appR HR.out HP.out HX.out (by omega) oN gr (hat.imp id (fun e => by simp; omega)))
    have HUN := hideP (UN.setCell ⟨gR, i, none⟩ (.slice (some ⟨gN, 0, none⟩) (n + 2) cN) (fun _ => hbR))
    clear oN gr hat UB rl2 UN
    go_wp2_with fail
    go_roundg (rows.length - (i + 1))
    case measure => have := HK.out; omega
    case rel => exact ⟨i + 1, rows'.set i (some ⟨gN, 0, none⟩, n + 2, cN), by have := HK.out; omega, by go_num, by rw [List.length_set]; exact hlen, fun j hj => by rw [List.getElem?_set_ne (by omega)]; exact HSAME.out j (by omega), HSN.out, HUN.out⟩
set_option maxRecDepth 100000 in
set_option maxHeartbeats 4000000 in
theorem own_appI (Q : Exit → Act → World → Prop) (K rest : Code) (w : World) (base rc ic : Nat) (RA IA : Option Addr) (rows irows : List Row3) (x0 x1 x5 x6 x7 x8 x9 x10 x11 x12 x13 x14 x15 x16 x17 x18 x19 x20 x21 x22 x23 x24 x25 x26 x27 x28 x29 x30 x31 x32 x33 x34 x35 x36 x37 x38 x39 x40 x41 x42 x43 x44 x45 x46 x47 x48 x49 x50 x51 x52 x53 x54 x55 x56 x57 x58 x59 x60 x61 x62 x63 x64 x65 x66 x67 x68 x69 x70 x71 x72 x73 x74 x75 x76 x77 x78 x79 x80 x81 x82 x83 x84 x85 x86 x87 x88 x89 x90 x91 x92 x93 x94 x95 x96 x97 x98 x99 x100 x101 x102 x103 x104 x105 x106 x107 x108 x109 x110 x111 x112 x113 x114 x115 x116 x117 x118 x119 x120 x121 x122 x123 x124 x125 x126 x127 x128 x129 x130 x131 x132 x133 x134 x135 x136 x137 x138 x139 x140 x141 x142 x143 x144 x145 x146 x147 x148 x149 x150 x151 x152 x153 x154 x155 x156 x157 x158 x159 x160 x161 x162 x163 x164 x165 x166 x167 x168 x169 x170 x171 x172 x173 x174 x175 x176 x177 x178 x179 x180 x181 x182 x183 x184 x185 x186 x187 x188 x189 x190 x191 x192 x193 x194 : Value) (hK : Tryd.f17.body = some K) (h : St w base RA rc rows rows.length 0 IA ic irows irows.length 0) (hl : irows.length ≤ 1000000) (hsm : ∀ r ∈ irows, r.2.1 ≤ 9000000) (hbw : base ≤ w.heap.size)
    (hnext : ∀ (irows' : List Row3) (x0 x1 x5 x6 x7 x8 x9 x10 x11 x12 x13 x14 x15 x16 x17 x18 x19 x20 x21 x22 x23 x24 x25 x26 x27 x28 x29 x30 x31 x32 x33 x34 x35 x36 x37 x38 x39 x40 x41 x42 x43 x44 x45 x46 x47 x48 x49 x50 x51 x52 x53 x54 x55 x56 x57 x58 x59 x60 x61 x62 x63 x64 x65 x66 x67 x68 x69 x70 x71 x72 x73 x74 x75 x76 x77 x78 x79 x80 x81 x82 x83 x84 x85 x86 x87 x88 x89 x90 x91 x92 x93 x94 x95 x96 x97 x98 x99 x100 x101 x102 x103 x104 x105 x106 x107 x108 x109 x110 x111 x112 x113 x114 x115 x116 x117 x118 x119 x120 x121 x122 x123 x124 x125 x126 x127 x128 x129 x130 x131 x132 x133 x134 x135 x136 x137 x138 x139 x140 x141 x142 x143 x144 x145 x146 x147 x148 x149 x150 x151 x152 x153 x154 x155 x156 x157 x158 x159 x160 x161 x162 x163 x164 x165 x166 x167 x168 x169 x170 x171 x172 x173 x174 x175 x176 x177 x178 x179 x180 x181 x182 x183 x184 x185 x186 x187 x188 x189 x190 x191 x192 x193 x194 : Value) (w' : World), irows'.length = irows.length → St w' base RA rc rows rows.length 0 IA ic irows' irows'.length 0 → Upd (fun b => base ≤ b) w w' → rest.wp Tryd.prog Q ⟨#[x0, x1, .bool false, .slice RA rows.length rc, .slice IA irows.length ic, x5, x6, x7, x8, x9, x10, x11, x12, x13, x14, x15, x16, x17, x18, x19, x20, x21, x22, x23, x24, x25, x26, x27, x28, x29, x30, x31, x32, x33, x34, x35, x36, x37, x38, x39, x40, x41, x42, x43, x44, x45, x46, x47, x48, x49, x50, x51, x52, x53, x54, x55, x56, x57, x58, x59, x60, x61, x62, x63, x64, x65, x66, x67, x68, x69, x70, x71, x72, x73, x74, x75, x76, x77, x78, x79, x80, x81, x82, x83, x84, x85, x86, x87, x88, x89, x90, x91, x92, x93, x94, x95, x96, x97, x98, x99, x100, x101, x102, x103, x104, x105, x106, x107, x108, x109, x110, x111, x112, x113, x114, x115, x116, x117, x118, x119, x120, x121, x122, x123, x124, x125, x126, x127, x128, x129, x130, x131, x132, x133, x134, x135, x136, x137, x138, x139, x140, x141, x142, x143, x144, x145, x146, x147, x148, x149, x150, x151, x152, x153, x154, x155, x156, x157, x158, x159, x160, x161, x162, x163, x164, x165, x166, x167, x168, x169, x170, x171, x172, x173, x174, x175, x176, x177, x178, x179, x180, x181, x182, x183, x184, x185, x186, x187, x188, x189, x190, x191, x192, x193, x194], []⟩ w') :
    (Code.seq (fstAt K 7) rest).wp Tryd.prog Q ⟨#[x0, x1, .bool false, .slice RA rows.length rc, .slice IA irows.length ic, x5, x6, x7, x8, x9, x10, x11, x12, x13, x14, x15, x16, x17, x18, x19, x20, x21, x22, x23, x24, x25, x26, x27, x28, x29, x30, x31, x32, x33, x34, x35, x36, x37, x38, x39, x40, x41, x42, x43, x44, x45, x46, x47, x48, x49, x50, x51, x52, x53, x54, x55, x56, x57, x58, x59, x60, x61, x62, x63, x64, x65, x66, x67, x68, x69, x70, x71, x72, x73, x74, x75, x76, x77, x78, x79, x80, x81, x82, x83, x84, x85, x86, x87, x88, x89, x90, x91, x92, x93, x94, x95, x96, x97, x98, x99, x100, x101, x102, x103, x104, x105, x106, x107, x108, x109, x110, x111, x112, x113, x114, x115, x116, x117, x118, x119, x120, x121, x122, x123, x124, x125, x126, x127, x128, x129, x130, x131, x132, x133, x134, x135, x136, x137, x138, x139, x140, x141, x142, x143, x144, x145, x146, x147, x148, x149, x150, x151, x152, x153, x154, x155, x156, x157, x158, x159, x160, x161, x162, x163, x164, x165, x166, x167, x168, x169, x170, x171, x172, x173, x174, x175, x176, x177, x178, x179, x180, x181, x182, x183, x184, x185, x186, x187, x188, x189, x190, x191, x192, x193, x194], []⟩ w := by
  injection hK with hK
  subst hK
  obtain ⟨i0, hi0, hz0, hz1, hz2⟩ := info_parts finfo_inst
  have H := hideP h
  have HN := hideP hnext
  have HSM := hideP hsm
  clear h hnext hsm
  simp only [fstAt]
  go_wp2_with fail
  go_loopg [12] irows.length (fun gk v7 wr => ∃ (i : Nat) (irows' : List Row3), i + gk = irows.length ∧ v7 = .int .i64 (i : Int) ∧ irows'.length = irows.length ∧ (∀ j : Nat, i ≤ j → irows'[j]? = irows[j]?) ∧ St wr base RA rc rows rows.length 0 IA ic irows' irows'.length 0 ∧ Upd (fun b => base ≤ b) w wr)
  case atStart => exact ⟨0, irows, by omega, rfl, rfl, fun _ _ => rfl, H.out, Upd.refl _ _⟩
  case round =>
    obtain ⟨i, irows', hk, rfl, hlen, hsame, hS, hU⟩ := hrel
    have HS := hideP hS
    have HU := hideP hU
    have HK := hideP hk
    have HSAME := hideP hsame
    have hwr := hU.size
    clear hS hU hk hsame
    by_cases hlt : ¬ i < irows.length
    · obtain rfl : i = irows.length := by have := HK.out; omega
      go_wp2_with fail
      exact HN.out irows' _ _ _ _ _ _ _ _ _ _ _ _ _ _ _ _ _ _ _ _ _ _ _ _ _ _ _ _ _ _ _ _ _ _ _ _ _ _ _ _ _ _ _ _ _ _ _ _ _ _ _ _ _ _ _ _ _ _ _ _ _ _ _ _ _ _ _ _ _ _ _ _ _ _ _ _ _ _ _ _ _ _ _ _ _ _ _ _ _ _ _ _ _ _ _ _ _ _ _ _ _ _ _ _ _ _ _ _ _ _ _ _ _ _ _ _ _ _ _ _ _ _ _ _ _ _ _ _ _ _ _ _ _ _ _ _ _ _ _ _ _ _ _ _ _ _ _ _ _ _ _ _ _ _ _ _ _ _ _ _ _ _ _ _ _ _ _ _ _ _ _ _ _ _ _ _ _ _ _ _ _ _ _ _ _ _ _ _ _ _ _ _ _ hlen HS.out HU.out
    obtain ⟨⟨A, n, c⟩, hr⟩ : ∃ r, irows[i]? = some r := ⟨_, List.getElem?_eq_getElem (by omega)⟩
    have hn9 := HSM.out _ (List.mem_of_getElem? hr)
    simp only at hn9
    have hr2 : irows'[i]? = some (A, n, c) := (HSAME.out i (Nat.le_refl _)).trans hr
    have hil : i < irows'.length := by omega
    have HR := hideP hr2
    clear hr hr2
    have g1 : (i : Int) < (irows.length : Int) := by omega
    obtain ⟨gR, hRA, hbR, hcR, hfR⟩ := list_cell HS.out.il HR.out
    unfold rowV at hcR
    subst hRA
    have vw : IntKind.i64.wrap (-1 - (i : Int)) = -1 - (i : Int) := by rw [IntKind.wrap_i64]; omega
    have HS2 := hideP (HS.out.upd ((Upd.refl Nob wr).alloc (.cells #[.int .i64 (-1 - (i : Int)), .int .i64 0, .int .i64 0, .int .i64 0, .slice none 0 0, .int .i64 (-1 - (i : Int)), .int .i64 0, .int .i64 0, .int .i64 0, .slice none 0 0] 48)))
    obtain ⟨xs, hx, hp⟩ := HS2.out.n.own i _ HR.out
    rw [if_pos hil] at hp
    unfold rowV at hx
    simp only at hx hp
    have HX := hideP hx
    have HP := hideP hp
    have hgl : gR < wr.heap.size := by
      obtain ⟨cur, hc, -⟩ := own_cells HS.out.il (g := gR) rfl
      exact hc.lt
    clear hx hp
    go_wp2_with (at_builtin; refine wpList_append_lies _ rfl _ _ 22 rfl base 48 i0 _ 5 56 Tryd.underlying22 hi0 hz0 hz1 hz2 rfl (by decide) (.slice A n c) n xs rfl HX.out ⟨wr.heap.size, 0, none⟩ 2 2 #[.int .i64 (-1 - (i : Int)), .int .i64 0, .int .i64 0, .int .i64 0, .slice none 0 0, .int .i64 (-1 - (i : Int)), .int .i64 0, .int .i64 0, .int .i64 0, .slice none 0 0].toList rfl rfl (World.news_of_block (cs := #[.int .i64 (-1 - (i : Int)), .int .i64 0, .int .i64 0, .int .i64 0, .slice none 0 0, .int .i64 (-1 - (i : Int)), .int .i64 0, .int .i64 0, .int .i64 0, .slice none 0 0]) (t := 48) (fr := (0, 0)) (heap_alloc_new wr _)) (by intro u hu; simp at hu; rcases hu with rfl | rfl | rfl | rfl | rfl | rfl | rfl | rfl | rfl | rfl <;> rfl) (by decide) (by unfold maxLen; omega) (by omega) (by simp; omega) (wr.heap.size + 1) (by simp) ?_)
    intro gN cN wN oN gr hat hltN
    have OB := fun b (hb : (Value.slice A n c).ownBlock = some b) => own_lo HX.out hb
    have UB := (Upd.refl (fun b => (Value.slice A n c).ownBlock = some b) (wr.alloc (.cells #[.int .i64 (-1 - (i : Int)), .int .i64 0, .int .i64 0, .int .i64 0, .slice none 0 0, .int .i64 (-1 - (i : Int)), .int .i64 0, .int .i64 0, .int .i64 0, .slice none 0 0] 48))).grown gr (fun b hb _ => hb)
    have rl2 := own_upd HS2.out.il UB (fun b hb hb2 => own_types HS2.out.il HX.out (by decide) hb2 hb)
    obtain ⟨g2, hg2, -, hcR2, hfR2⟩ := list_cell rl2 HR.out
    obtain rfl : gR = g2 := by injection hg2 with e; injection e
    have UN := (HU.out.alloc (.cells #[.int .i64 (-1 - (i : Int)), .int .i64 0, .int .i64 0, .int .i64 0, .slice none 0 0, .int .i64 (-1 - (i : Int)), .int .i64 0, .int .i64 0, .int .i64 0, .slice none 0 0] 48)).grown gr (fun b hb _ => OB b hb)
    have HSN := hideP (HS2.out.appI HR.out HP.out HX.out (by omega) oN gr (hat.imp id (fun e => by simp; omega)))
    have HUN := hideP (UN.setCell ⟨gR, i, none⟩ (.slice (some ⟨gN, 0, none⟩) (n + 2) cN) (fun _ => hbR))
    clear oN gr hat UB rl2 UN
    go_wp2_with fail
    go_roundg (irows.length - (i + 1))
    case measure => have := HK.out; omega
    case rel => exact ⟨i + 1, irows'.set i (some ⟨gN, 0, none⟩, n + 2, cN), by have := HK.out; omega, by go_num, by rw [List.length_set]; exact hlen, fun j hj => by rw [List.getElem?_set_ne (by omega)]; exact HSAME.out j (by omega), HSN.out, HUN.out⟩
end Go.Proofs.YtdbdokjlcdogiaaDoor
