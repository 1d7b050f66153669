/-
  Owned, LoadsR, Loads, put together.
-/
import Derived.Test.YtdbdokjlcdogiaaDoorZ27OwnColl
import Derived.Test.YtdbdokjlcdogiaaDoorZ28OwnRead
import Derived.Test.YtdbdokjlcdogiaaDoorZ26Kept
import Derived.Test.YtdbdokjlcdogiaaDoorZ25Spoilt

/-
  The walk of heronlaw10.Owned. Printed by tools/mkOwn.py.
-/
namespace Go.Proofs.YtdbdokjlcdogiaaDoor
open Go.RowKit
set_option linter.unusedVariables false

set_option maxRecDepth 100000 in
set_option maxHeartbeats 4000000 in
theorem own_start (Q : Exit → Act → World → Prop) (K rest : Code) (w : World) (lb cl : Nat) (ps : List Prg) (x1 x2 x3 x4 x5 x6 x7 x8 x9 x10 x11 x12 x13 x14 x15 x16 x17 x18 x19 x20 x21 x22 x23 x24 x25 x26 x27 x28 x29 x30 x31 x32 x33 x34 x35 x36 x37 x38 x39 x40 x41 x42 x43 x44 x45 x46 x47 x48 x49 x50 x51 x52 x53 x54 x55 x56 x57 x58 x59 x60 x61 x62 x63 x64 x65 x66 x67 x68 x69 x70 x71 x72 x73 x74 x75 x76 x77 x78 x79 x80 x81 x82 x83 x84 x85 x86 x87 x88 x89 x90 x91 x92 x93 x94 x95 x96 x97 x98 x99 x100 x101 x102 x103 x104 x105 x106 x107 x108 x109 x110 x111 x112 x113 x114 x115 x116 x117 x118 x119 x120 x121 x122 x123 x124 x125 x126 x127 x128 x129 x130 x131 x132 x133 x134 x135 x136 x137 x138 x139 x140 x141 x142 x143 x144 x145 x146 x147 x148 x149 x150 x151 x152 x153 x154 x155 x156 x157 x158 x159 x160 x161 x162 x163 x164 x165 x166 x167 x168 x169 x170 x171 x172 x173 x174 x175 x176 x177 x178 x179 x180 x181 x182 x183 x184 x185 x186 x187 x188 x189 x190 x191 x192 x193 x194 : Value) (hK : Tryd.f17.body = some K)
    (hnext : ∀ (x1 x5 x6 x7 x8 x9 x10 x11 x12 x13 x14 x15 x16 x17 x18 x19 x20 x21 x22 x23 x24 x25 x26 x27 x28 x29 x30 x31 x32 x33 x34 x35 x36 x37 x38 x39 x40 x41 x42 x43 x44 x45 x46 x47 x48 x49 x50 x51 x52 x53 x54 x55 x56 x57 x58 x59 x60 x61 x62 x63 x64 x65 x66 x67 x68 x69 x70 x71 x72 x73 x74 x75 x76 x77 x78 x79 x80 x81 x82 x83 x84 x85 x86 x87 x88 x89 x90 x91 x92 x93 x94 x95 x96 x97 x98 x99 x100 x101 x102 x103 x104 x105 x106 x107 x108 x109 x110 x111 x112 x113 x114 x115 x116 x117 x118 x119 x120 x121 x122 x123 x124 x125 x126 x127 x128 x129 x130 x131 x132 x133 x134 x135 x136 x137 x138 x139 x140 x141 x142 x143 x144 x145 x146 x147 x148 x149 x150 x151 x152 x153 x154 x155 x156 x157 x158 x159 x160 x161 x162 x163 x164 x165 x166 x167 x168 x169 x170 x171 x172 x173 x174 x175 x176 x177 x178 x179 x180 x181 x182 x183 x184 x185 x186 x187 x188 x189 x190 x191 x192 x193 x194 : Value), rest.wp Tryd.prog Q ⟨#[.slice (some ⟨lb, 0, none⟩) ps.length cl, x1, .bool false, .slice none 0 0, .slice none 0 0, x5, x6, x7, x8, x9, x10, x11, x12, x13, x14, x15, x16, x17, x18, x19, x20, x21, x22, x23, x24, x25, x26, x27, x28, x29, x30, x31, x32, x33, x34, x35, x36, x37, x38, x39, x40, x41, x42, x43, x44, x45, x46, x47, x48, x49, x50, x51, x52, x53, x54, x55, x56, x57, x58, x59, x60, x61, x62, x63, x64, x65, x66, x67, x68, x69, x70, x71, x72, x73, x74, x75, x76, x77, x78, x79, x80, x81, x82, x83, x84, x85, x86, x87, x88, x89, x90, x91, x92, x93, x94, x95, x96, x97, x98, x99, x100, x101, x102, x103, x104, x105, x106, x107, x108, x109, x110, x111, x112, x113, x114, x115, x116, x117, x118, x119, x120, x121, x122, x123, x124, x125, x126, x127, x128, x129, x130, x131, x132, x133, x134, x135, x136, x137, x138, x139, x140, x141, x142, x143, x144, x145, x146, x147, x148, x149, x150, x151, x152, x153, x154, x155, x156, x157, x158, x159, x160, x161, x162, x163, x164, x165, x166, x167, x168, x169, x170, x171, x172, x173, x174, x175, x176, x177, x178, x179, x180, x181, x182, x183, x184, x185, x186, x187, x188, x189, x190, x191, x192, x193, x194], []⟩ w) :
    (Code.seq (fstAt K 0) (Code.seq (fstAt K 1) (Code.seq (fstAt K 2) rest))).wp Tryd.prog Q ⟨#[.slice (some ⟨lb, 0, none⟩) ps.length cl, x1, x2, x3, x4, x5, x6, x7, x8, x9, x10, x11, x12, x13, x14, x15, x16, x17, x18, x19, x20, x21, x22, x23, x24, x25, x26, x27, x28, x29, x30, x31, x32, x33, x34, x35, x36, x37, x38, x39, x40, x41, x42, x43, x44, x45, x46, x47, x48, x49, x50, x51, x52, x53, x54, x55, x56, x57, x58, x59, x60, x61, x62, x63, x64, x65, x66, x67, x68, x69, x70, x71, x72, x73, x74, x75, x76, x77, x78, x79, x80, x81, x82, x83, x84, x85, x86, x87, x88, x89, x90, x91, x92, x93, x94, x95, x96, x97, x98, x99, x100, x101, x102, x103, x104, x105, x106, x107, x108, x109, x110, x111, x112, x113, x114, x115, x116, x117, x118, x119, x120, x121, x122, x123, x124, x125, x126, x127, x128, x129, x130, x131, x132, x133, x134, x135, x136, x137, x138, x139, x140, x141, x142, x143, x144, x145, x146, x147, x148, x149, x150, x151, x152, x153, x154, x155, x156, x157, x158, x159, x160, x161, x162, x163, x164, x165, x166, x167, x168, x169, x170, x171, x172, x173, x174, x175, x176, x177, x178, x179, x180, x181, x182, x183, x184, x185, x186, x187, x188, x189, x190, x191, x192, x193, x194], []⟩ w := by
  injection hK with hK
  subst hK
  have HN := hideP hnext
  clear hnext
  simp only [fstAt]
  go_wp2_with fail
  exact HN.out _ _ _ _ _ _ _ _ _ _ _ _ _ _ _ _ _ _ _ _ _ _ _ _ _ _ _ _ _ _ _ _ _ _ _ _ _ _ _ _ _ _ _ _ _ _ _ _ _ _ _ _ _ _ _ _ _ _ _ _ _ _ _ _ _ _ _ _ _ _ _ _ _ _ _ _ _ _ _ _ _ _ _ _ _ _ _ _ _ _ _ _ _ _ _ _ _ _ _ _ _ _ _ _ _ _ _ _ _ _ _ _ _ _ _ _ _ _ _ _ _ _ _ _ _ _ _ _ _ _ _ _ _ _ _ _ _ _ _ _ _ _ _ _ _ _ _ _ _ _ _ _ _ _ _ _ _ _ _ _ _ _ _ _ _ _ _ _ _ _ _ _ _ _ _ _ _ _ _ _ _ _ _ _ _ _ _ _ _ _ _
set_option maxRecDepth 100000 in
set_option maxHeartbeats 4000000 in
theorem own_end (P : Ending → World → Prop) (K : Code) (w : World) (x0 x1 x2 x3 x4 x5 x6 x7 x8 x9 x10 x11 x12 x13 x14 x15 x16 x17 x18 x19 x20 x21 x22 x23 x24 x25 x26 x27 x28 x29 x30 x31 x32 x33 x34 x35 x36 x37 x38 x39 x40 x41 x42 x43 x44 x45 x46 x47 x48 x49 x50 x51 x52 x53 x54 x55 x56 x57 x58 x59 x60 x61 x62 x63 x64 x65 x66 x67 x68 x69 x70 x71 x72 x73 x74 x75 x76 x77 x78 x79 x80 x81 x82 x83 x84 x85 x86 x87 x88 x89 x90 x91 x92 x93 x94 x95 x96 x97 x98 x99 x100 x101 x102 x103 x104 x105 x106 x107 x108 x109 x110 x111 x112 x113 x114 x115 x116 x117 x118 x119 x120 x121 x122 x123 x124 x125 x126 x127 x128 x129 x130 x131 x132 x133 x134 x135 x136 x137 x138 x139 x140 x141 x142 x143 x144 x145 x146 x147 x148 x149 x150 x151 x152 x153 x154 x155 x156 x157 x158 x159 x160 x161 x162 x163 x164 x165 x166 x167 x168 x169 x170 x171 x172 x173 x174 x175 x176 x177 x178 x179 x180 x181 x182 x183 x184 x185 x186 x187 x188 x189 x190 x191 x192 x193 x194 : Value) (hK : Tryd.f17.body = some K) (hP : P (.returned (.bool true)) w) :
    (seqAt K 10).wp Tryd.prog (bodyPost Tryd.prog Tryd.f17 P) ⟨#[x0, x1, x2, x3, x4, x5, x6, x7, x8, x9, x10, x11, x12, x13, x14, x15, x16, x17, x18, x19, x20, x21, x22, x23, x24, x25, x26, x27, x28, x29, x30, x31, x32, x33, x34, x35, x36, x37, x38, x39, x40, x41, x42, x43, x44, x45, x46, x47, x48, x49, x50, x51, x52, x53, x54, x55, x56, x57, x58, x59, x60, x61, x62, x63, x64, x65, x66, x67, x68, x69, x70, x71, x72, x73, x74, x75, x76, x77, x78, x79, x80, x81, x82, x83, x84, x85, x86, x87, x88, x89, x90, x91, x92, x93, x94, x95, x96, x97, x98, x99, x100, x101, x102, x103, x104, x105, x106, x107, x108, x109, x110, x111, x112, x113, x114, x115, x116, x117, x118, x119, x120, x121, x122, x123, x124, x125, x126, x127, x128, x129, x130, x131, x132, x133, x134, x135, x136, x137, x138, x139, x140, x141, x142, x143, x144, x145, x146, x147, x148, x149, x150, x151, x152, x153, x154, x155, x156, x157, x158, x159, x160, x161, x162, x163, x164, x165, x166, x167, x168, x169, x170, x171, x172, x173, x174, x175, x176, x177, x178, x179, x180, x181, x182, x183, x184, x185, x186, x187, x188, x189, x190, x191, x192, x193, x194], []⟩ w := by
  injection hK with hK
  subst hK
  have HP := hideP hP
  clear hP
  simp only [seqAt]
  go_wp2_with fail
  exact HP.out
set_option maxRecDepth 100000 in
set_option maxHeartbeats 4000000 in
theorem owned_any (w : World) (base lb cl : Nat) (ps : List Prg) (h : Prgs w base ps) (hL : Cells w lb 24 (flatP ps).toArray) (hbw : base ≤ w.heap.size) :
    Calls Tryd.prog 17 #[.slice (some ⟨lb, 0, none⟩) ps.length cl] w fun e w' => e = .returned (.bool true) ∧ Upd (fun b => base ≤ b) w w' := by
  have hlr := h.lenR
  have hli : (allI ps).length ≤ 3 := by have := h.len; simpa [allI] using this
  go_enter Tryd.func17, Tryd.ntmps17
  refine own_start _ _ _ w lb cl ps _ _ _ _ _ _ _ _ _ _ _ _ _ _ _ _ _ _ _ _ _ _ _ _ _ _ _ _ _ _ _ _ _ _ _ _ _ _ _ _ _ _ _ _ _ _ _ _ _ _ _ _ _ _ _ _ _ _ _ _ _ _ _ _ _ _ _ _ _ _ _ _ _ _ _ _ _ _ _ _ _ _ _ _ _ _ _ _ _ _ _ _ _ _ _ _ _ _ _ _ _ _ _ _ _ _ _ _ _ _ _ _ _ _ _ _ _ _ _ _ _ _ _ _ _ _ _ _ _ _ _ _ _ _ _ _ _ _ _ _ _ _ _ _ _ _ _ _ _ _ _ _ _ _ _ _ _ _ _ _ _ _ _ _ _ _ _ _ _ _ _ _ _ _ _ _ _ _ _ _ _ _ _ _ _ _ _ _ _ _ _ _ _ _ rfl ?_
  intros
  refine own_collect _ _ _ w base lb cl ps _ _ _ _ _ _ _ _ _ _ _ _ _ _ _ _ _ _ _ _ _ _ _ _ _ _ _ _ _ _ _ _ _ _ _ _ _ _ _ _ _ _ _ _ _ _ _ _ _ _ _ _ _ _ _ _ _ _ _ _ _ _ _ _ _ _ _ _ _ _ _ _ _ _ _ _ _ _ _ _ _ _ _ _ _ _ _ _ _ _ _ _ _ _ _ _ _ _ _ _ _ _ _ _ _ _ _ _ _ _ _ _ _ _ _ _ _ _ _ _ _ _ _ _ _ _ _ _ _ _ _ _ _ _ _ _ _ _ _ _ _ _ _ _ _ _ _ _ _ _ _ _ _ _ _ _ _ _ _ _ _ _ _ _ _ _ _ _ _ _ _ _ _ _ _ _ _ _ _ _ _ _ _ _ _ _ _ _ _ _ _ rfl h hL ?_
  intro RA IA rc ic x1 x5 x6 x7 x8 x9 x10 x11 x12 x13 x14 x15 x16 x17 x18 x19 x20 x21 x22 x23 x24 x25 x26 x27 x28 x29 x30 x31 x32 x33 x34 x35 x36 x37 x38 x39 x40 x41 x42 x43 x44 x45 x46 x47 x48 x49 x50 x51 x52 x53 x54 x55 x56 x57 x58 x59 x60 x61 x62 x63 x64 x65 x66 x67 x68 x69 x70 x71 x72 x73 x74 x75 x76 x77 x78 x79 x80 x81 x82 x83 x84 x85 x86 x87 x88 x89 x90 x91 x92 x93 x94 x95 x96 x97 x98 x99 x100 x101 x102 x103 x104 x105 x106 x107 x108 x109 x110 x111 x112 x113 x114 x115 x116 x117 x118 x119 x120 x121 x122 x123 x124 x125 x126 x127 x128 x129 x130 x131 x132 x133 x134 x135 x136 x137 x138 x139 x140 x141 x142 x143 x144 x145 x146 x147 x148 x149 x150 x151 x152 x153 x154 x155 x156 x157 x158 x159 x160 x161 x162 x163 x164 x165 x166 x167 x168 x169 x170 x171 x172 x173 x174 x175 x176 x177 x178 x179 x180 x181 x182 x183 x184 x185 x186 x187 x188 x189 x190 x191 x192 x193 x194 w1 hrl U1
  have h1 := h.upd U1 (fun _ _ => not_nob)
  have hs1 := U1.size
  have S1 : St w1 base RA rc (allR ps) 0 0 IA ic (allI ps) 0 0 := ⟨own_base hrl.1 (fun g hg => Nat.le_trans hbw (own_lo hrl.1 hg)), h1.rows, own_base hrl.2 (fun g hg => Nat.le_trans hbw (own_lo hrl.2 hg)), h1.insts⟩
  have V1 := U1.mono (G := fun b => base ≤ b) (fun _ _ h => absurd h not_nob)
  refine own_fillR _ _ _ w1 base rc ic RA IA (allR ps) (allI ps) _ _ _ _ _ _ _ _ _ _ _ _ _ _ _ _ _ _ _ _ _ _ _ _ _ _ _ _ _ _ _ _ _ _ _ _ _ _ _ _ _ _ _ _ _ _ _ _ _ _ _ _ _ _ _ _ _ _ _ _ _ _ _ _ _ _ _ _ _ _ _ _ _ _ _ _ _ _ _ _ _ _ _ _ _ _ _ _ _ _ _ _ _ _ _ _ _ _ _ _ _ _ _ _ _ _ _ _ _ _ _ _ _ _ _ _ _ _ _ _ _ _ _ _ _ _ _ _ _ _ _ _ _ _ _ _ _ _ _ _ _ _ _ _ _ _ _ _ _ _ _ _ _ _ _ _ _ _ _ _ _ _ _ _ _ _ _ _ _ _ _ _ _ _ _ _ _ _ _ _ _ _ _ _ _ _ _ _ _ _ _ _ rfl S1 (by omega) ?_
  intro x0 x1 x5 x6 x7 x8 x9 x10 x11 x12 x13 x14 x15 x16 x17 x18 x19 x20 x21 x22 x23 x24 x25 x26 x27 x28 x29 x30 x31 x32 x33 x34 x35 x36 x37 x38 x39 x40 x41 x42 x43 x44 x45 x46 x47 x48 x49 x50 x51 x52 x53 x54 x55 x56 x57 x58 x59 x60 x61 x62 x63 x64 x65 x66 x67 x68 x69 x70 x71 x72 x73 x74 x75 x76 x77 x78 x79 x80 x81 x82 x83 x84 x85 x86 x87 x88 x89 x90 x91 x92 x93 x94 x95 x96 x97 x98 x99 x100 x101 x102 x103 x104 x105 x106 x107 x108 x109 x110 x111 x112 x113 x114 x115 x116 x117 x118 x119 x120 x121 x122 x123 x124 x125 x126 x127 x128 x129 x130 x131 x132 x133 x134 x135 x136 x137 x138 x139 x140 x141 x142 x143 x144 x145 x146 x147 x148 x149 x150 x151 x152 x153 x154 x155 x156 x157 x158 x159 x160 x161 x162 x163 x164 x165 x166 x167 x168 x169 x170 x171 x172 x173 x174 x175 x176 x177 x178 x179 x180 x181 x182 x183 x184 x185 x186 x187 x188 x189 x190 x191 x192 x193 x194 w2 S2 U2
  have V2 := V1.trans U2 (fun _ _ h => h)
  have hs2 := U2.size
  refine own_appR _ _ _ w2 base rc ic RA IA (allR ps) (allI ps) _ _ _ _ _ _ _ _ _ _ _ _ _ _ _ _ _ _ _ _ _ _ _ _ _ _ _ _ _ _ _ _ _ _ _ _ _ _ _ _ _ _ _ _ _ _ _ _ _ _ _ _ _ _ _ _ _ _ _ _ _ _ _ _ _ _ _ _ _ _ _ _ _ _ _ _ _ _ _ _ _ _ _ _ _ _ _ _ _ _ _ _ _ _ _ _ _ _ _ _ _ _ _ _ _ _ _ _ _ _ _ _ _ _ _ _ _ _ _ _ _ _ _ _ _ _ _ _ _ _ _ _ _ _ _ _ _ _ _ _ _ _ _ _ _ _ _ _ _ _ _ _ _ _ _ _ _ _ _ _ _ _ _ _ _ _ _ _ _ _ _ _ _ _ _ _ _ _ _ _ _ _ _ _ _ _ _ _ _ _ _ _ rfl S2 (by omega) (allR_small h) (by omega) ?_
  intro rows2 x0 x1 x5 x6 x7 x8 x9 x10 x11 x12 x13 x14 x15 x16 x17 x18 x19 x20 x21 x22 x23 x24 x25 x26 x27 x28 x29 x30 x31 x32 x33 x34 x35 x36 x37 x38 x39 x40 x41 x42 x43 x44 x45 x46 x47 x48 x49 x50 x51 x52 x53 x54 x55 x56 x57 x58 x59 x60 x61 x62 x63 x64 x65 x66 x67 x68 x69 x70 x71 x72 x73 x74 x75 x76 x77 x78 x79 x80 x81 x82 x83 x84 x85 x86 x87 x88 x89 x90 x91 x92 x93 x94 x95 x96 x97 x98 x99 x100 x101 x102 x103 x104 x105 x106 x107 x108 x109 x110 x111 x112 x113 x114 x115 x116 x117 x118 x119 x120 x121 x122 x123 x124 x125 x126 x127 x128 x129 x130 x131 x132 x133 x134 x135 x136 x137 x138 x139 x140 x141 x142 x143 x144 x145 x146 x147 x148 x149 x150 x151 x152 x153 x154 x155 x156 x157 x158 x159 x160 x161 x162 x163 x164 x165 x166 x167 x168 x169 x170 x171 x172 x173 x174 x175 x176 x177 x178 x179 x180 x181 x182 x183 x184 x185 x186 x187 x188 x189 x190 x191 x192 x193 x194 w3 e3 S3 U3
  have V3 := V2.trans U3 (fun _ _ h => h)
  have hs3 := U3.size
  rw [← e3]
  refine own_fillI _ _ _ w3 base rc ic RA IA rows2 (allI ps) _ _ _ _ _ _ _ _ _ _ _ _ _ _ _ _ _ _ _ _ _ _ _ _ _ _ _ _ _ _ _ _ _ _ _ _ _ _ _ _ _ _ _ _ _ _ _ _ _ _ _ _ _ _ _ _ _ _ _ _ _ _ _ _ _ _ _ _ _ _ _ _ _ _ _ _ _ _ _ _ _ _ _ _ _ _ _ _ _ _ _ _ _ _ _ _ _ _ _ _ _ _ _ _ _ _ _ _ _ _ _ _ _ _ _ _ _ _ _ _ _ _ _ _ _ _ _ _ _ _ _ _ _ _ _ _ _ _ _ _ _ _ _ _ _ _ _ _ _ _ _ _ _ _ _ _ _ _ _ _ _ _ _ _ _ _ _ _ _ _ _ _ _ _ _ _ _ _ _ _ _ _ _ _ _ _ _ _ _ _ _ _ rfl S3 (by omega) ?_
  intro x0 x1 x5 x6 x7 x8 x9 x10 x11 x12 x13 x14 x15 x16 x17 x18 x19 x20 x21 x22 x23 x24 x25 x26 x27 x28 x29 x30 x31 x32 x33 x34 x35 x36 x37 x38 x39 x40 x41 x42 x43 x44 x45 x46 x47 x48 x49 x50 x51 x52 x53 x54 x55 x56 x57 x58 x59 x60 x61 x62 x63 x64 x65 x66 x67 x68 x69 x70 x71 x72 x73 x74 x75 x76 x77 x78 x79 x80 x81 x82 x83 x84 x85 x86 x87 x88 x89 x90 x91 x92 x93 x94 x95 x96 x97 x98 x99 x100 x101 x102 x103 x104 x105 x106 x107 x108 x109 x110 x111 x112 x113 x114 x115 x116 x117 x118 x119 x120 x121 x122 x123 x124 x125 x126 x127 x128 x129 x130 x131 x132 x133 x134 x135 x136 x137 x138 x139 x140 x141 x142 x143 x144 x145 x146 x147 x148 x149 x150 x151 x152 x153 x154 x155 x156 x157 x158 x159 x160 x161 x162 x163 x164 x165 x166 x167 x168 x169 x170 x171 x172 x173 x174 x175 x176 x177 x178 x179 x180 x181 x182 x183 x184 x185 x186 x187 x188 x189 x190 x191 x192 x193 x194 w4 S4 U4
  have V4 := V3.trans U4 (fun _ _ h => h)
  have hs4 := U4.size
  refine own_appI _ _ _ w4 base rc ic RA IA rows2 (allI ps) _ _ _ _ _ _ _ _ _ _ _ _ _ _ _ _ _ _ _ _ _ _ _ _ _ _ _ _ _ _ _ _ _ _ _ _ _ _ _ _ _ _ _ _ _ _ _ _ _ _ _ _ _ _ _ _ _ _ _ _ _ _ _ _ _ _ _ _ _ _ _ _ _ _ _ _ _ _ _ _ _ _ _ _ _ _ _ _ _ _ _ _ _ _ _ _ _ _ _ _ _ _ _ _ _ _ _ _ _ _ _ _ _ _ _ _ _ _ _ _ _ _ _ _ _ _ _ _ _ _ _ _ _ _ _ _ _ _ _ _ _ _ _ _ _ _ _ _ _ _ _ _ _ _ _ _ _ _ _ _ _ _ _ _ _ _ _ _ _ _ _ _ _ _ _ _ _ _ _ _ _ _ _ _ _ _ _ _ _ _ _ _ rfl S4 (by omega) (allI_small h) (by omega) ?_
  intro irows2 x0 x1 x5 x6 x7 x8 x9 x10 x11 x12 x13 x14 x15 x16 x17 x18 x19 x20 x21 x22 x23 x24 x25 x26 x27 x28 x29 x30 x31 x32 x33 x34 x35 x36 x37 x38 x39 x40 x41 x42 x43 x44 x45 x46 x47 x48 x49 x50 x51 x52 x53 x54 x55 x56 x57 x58 x59 x60 x61 x62 x63 x64 x65 x66 x67 x68 x69 x70 x71 x72 x73 x74 x75 x76 x77 x78 x79 x80 x81 x82 x83 x84 x85 x86 x87 x88 x89 x90 x91 x92 x93 x94 x95 x96 x97 x98 x99 x100 x101 x102 x103 x104 x105 x106 x107 x108 x109 x110 x111 x112 x113 x114 x115 x116 x117 x118 x119 x120 x121 x122 x123 x124 x125 x126 x127 x128 x129 x130 x131 x132 x133 x134 x135 x136 x137 x138 x139 x140 x141 x142 x143 x144 x145 x146 x147 x148 x149 x150 x151 x152 x153 x154 x155 x156 x157 x158 x159 x160 x161 x162 x163 x164 x165 x166 x167 x168 x169 x170 x171 x172 x173 x174 x175 x176 x177 x178 x179 x180 x181 x182 x183 x184 x185 x186 x187 x188 x189 x190 x191 x192 x193 x194 w5 e5 S5 U5
  have V5 := V4.trans U5 (fun _ _ h => h)
  rw [← e5]
  refine own_readR _ _ _ w5 base rc ic RA IA rows2 irows2 _ _ _ _ _ _ _ _ _ _ _ _ _ _ _ _ _ _ _ _ _ _ _ _ _ _ _ _ _ _ _ _ _ _ _ _ _ _ _ _ _ _ _ _ _ _ _ _ _ _ _ _ _ _ _ _ _ _ _ _ _ _ _ _ _ _ _ _ _ _ _ _ _ _ _ _ _ _ _ _ _ _ _ _ _ _ _ _ _ _ _ _ _ _ _ _ _ _ _ _ _ _ _ _ _ _ _ _ _ _ _ _ _ _ _ _ _ _ _ _ _ _ _ _ _ _ _ _ _ _ _ _ _ _ _ _ _ _ _ _ _ _ _ _ _ _ _ _ _ _ _ _ _ _ _ _ _ _ _ _ _ _ _ _ _ _ _ _ _ _ _ _ _ _ _ _ _ _ _ _ _ _ _ _ _ _ _ _ _ _ _ _ _ rfl S5 (by omega) ?_
  intros
  refine own_readI _ _ _ w5 base rc ic RA IA rows2 irows2 _ _ _ _ _ _ _ _ _ _ _ _ _ _ _ _ _ _ _ _ _ _ _ _ _ _ _ _ _ _ _ _ _ _ _ _ _ _ _ _ _ _ _ _ _ _ _ _ _ _ _ _ _ _ _ _ _ _ _ _ _ _ _ _ _ _ _ _ _ _ _ _ _ _ _ _ _ _ _ _ _ _ _ _ _ _ _ _ _ _ _ _ _ _ _ _ _ _ _ _ _ _ _ _ _ _ _ _ _ _ _ _ _ _ _ _ _ _ _ _ _ _ _ _ _ _ _ _ _ _ _ _ _ _ _ _ _ _ _ _ _ _ _ _ _ _ _ _ _ _ _ _ _ _ _ _ _ _ _ _ _ _ _ _ _ _ _ _ _ _ _ _ _ _ _ _ _ _ _ _ _ _ _ _ _ _ _ _ _ _ _ _ _ rfl S5 (by omega) ?_
  intros
  exact own_end _ _ w5 _ _ _ _ _ _ _ _ _ _ _ _ _ _ _ _ _ _ _ _ _ _ _ _ _ _ _ _ _ _ _ _ _ _ _ _ _ _ _ _ _ _ _ _ _ _ _ _ _ _ _ _ _ _ _ _ _ _ _ _ _ _ _ _ _ _ _ _ _ _ _ _ _ _ _ _ _ _ _ _ _ _ _ _ _ _ _ _ _ _ _ _ _ _ _ _ _ _ _ _ _ _ _ _ _ _ _ _ _ _ _ _ _ _ _ _ _ _ _ _ _ _ _ _ _ _ _ _ _ _ _ _ _ _ _ _ _ _ _ _ _ _ _ _ _ _ _ _ _ _ _ _ _ _ _ _ _ _ _ _ _ _ _ _ _ _ _ _ _ _ _ _ _ _ _ _ _ _ _ _ _ _ _ _ _ _ _ _ _ _ _ _ _ _ _ rfl ⟨rfl, V5⟩
end Go.Proofs.YtdbdokjlcdogiaaDoor

/-
  heronlaw10.CodeLoads from its region 14 on, over whatever frame. Printed by tools/mkLoads.py.
-/
namespace Go.Proofs.YtdbdokjlcdogiaaDoor
open Go.RowKit
set_option linter.unusedVariables false

set_option maxRecDepth 100000 in
set_option maxHeartbeats 4000000 in
theorem loads_rest (P : Ending → World → Prop) (K : Code) (w w1 : World) (g n cap pB aB cB b1 b2 cp ca cc : Nat) (bs bs2 : List Int) (Ap Aa Ac : Option Addr) (ga gc : List (Option Addr × Nat)) (x0 x1 x2 x3 x4 x5 x6 x7 x9 x10 x13 x15 x16 x17 x18 x19 x20 x21 x22 x23 x24 x25 x26 x27 x28 x29 x30 x31 x32 x33 x34 x35 x36 x37 x38 x39 x40 x41 x42 x43 x44 x45 x46 x47 x48 x49 x50 x51 x52 x53 x54 x55 x56 x57 x58 x59 x60 x61 x62 x63 x64 x65 x66 x67 x68 x69 x70 x71 x72 x73 x74 x75 x76 x77 x78 x79 x80 x81 x82 x83 x84 x85 x86 x87 x88 x89 x90 x91 x92 x93 x94 x95 x96 x97 x98 x99 x100 x101 x102 x103 x104 x105 x106 x107 x108 x109 x110 x111 x112 x113 x114 x115 x116 x117 x118 x119 x120 x121 x122 x123 x124 x125 x126 x127 x128 x129 x130 x131 x132 x133 x134 x135 x136 x137 x138 x139 x140 x141 x142 x143 x144 x145 x146 x147 x148 x149 x150 x151 x152 x153 x154 : Value) (hK : Tryd.f4.body = some K)
    (hp : InstsR w1 (fun b => b < w1.heap.size) Ap (prgI bs).length (prgI bs)) (hCp : Cells w1 pB 24 #[.slice Ap (prgI bs).length cp, .int .i64 (prgS bs), .int .i64 (prgC bs)]) (hCa : Cells w1 aB 24 #[.slice Aa (prgI bs).length ca, .int .i64 (prgS bs), .int .i64 (prgC bs)]) (hCc : Cells w1 cB 24 #[.slice Ac (prgI bs).length cc, .int .i64 (prgS bs), .int .i64 (prgC bs)])
    (hA : ProgW w1 b1 Aa ca (prgI bs) ga) (hta : Below_ b2 Aa ga) (hC : ProgW w1 b2 Ac cc (prgI bs) gc) (hR : Reads w1 (fun b => b = g) 1 (some ⟨g, 0, none⟩) n (bytv bs2)) (h8 : Bys bs) (h82 : Bys bs2) (hn : n ≤ 140737488351232) (hg : g < w1.heap.size) (hb1 : w.heap.size ≤ b1) (hb12 : b1 ≤ b2) (hb2 : b2 ≤ w1.heap.size) (hcap : n ≤ cap) (hU : Upd Nob w w1)
    (hP : ∀ w', Upd Nob w w' → P (.returned (.bool true)) w') :
    (seqAt K 12).wp Tryd.prog (bodyPost Tryd.prog Tryd.f4 P) ⟨#[x0, x1, x2, x3, x4, x5, x6, x7, .pointer (some ⟨pB, 0, none⟩), x9, x10, .slice (some ⟨g, 0, none⟩) n cap, .pointer (some ⟨aB, 0, none⟩), x13, .pointer (some ⟨cB, 0, none⟩), x15, x16, x17, x18, x19, x20, x21, x22, x23, x24, x25, x26, x27, x28, x29, x30, x31, x32, x33, x34, x35, x36, x37, x38, x39, x40, x41, x42, x43, x44, x45, x46, x47, x48, x49, x50, x51, x52, x53, x54, x55, x56, x57, x58, x59, x60, x61, x62, x63, x64, x65, x66, x67, x68, x69, x70, x71, x72, x73, x74, x75, x76, x77, x78, x79, x80, x81, x82, x83, x84, x85, x86, x87, x88, x89, x90, x91, x92, x93, x94, x95, x96, x97, x98, x99, x100, x101, x102, x103, x104, x105, x106, x107, x108, x109, x110, x111, x112, x113, x114, x115, x116, x117, x118, x119, x120, x121, x122, x123, x124, x125, x126, x127, x128, x129, x130, x131, x132, x133, x134, x135, x136, x137, x138, x139, x140, x141, x142, x143, x144, x145, x146, x147, x148, x149, x150, x151, x152, x153, x154], []⟩ w1 := by
  injection hK with hK
  subst hK
  obtain ⟨i0, hi0, hz0, hz1, hz2⟩ := info_parts cinfo_u8
  obtain ⟨m1, m2, m3⟩ := prg_num h8
  obtain ⟨k1, k2, k3⟩ := prg_num h82
  have MN := hideP m1
  have MS := hideP m3
  have KN := hideP k1
  have KS := hideP k3
  have Hp := hideP hp
  have HCp := hideP hCp
  have HCa := hideP hCa
  have HCc := hideP hCc
  have HA := hideP hA
  have HTA := hideP hta
  have HC := hideP hC
  have HR := hideP hR
  have H82 := hideP h82
  have HU := hideP hU
  have HP := hideP hP
  have hs1 := hU.size
  have a0 := hCa.cellv (i := 0) rfl
  have a1 := hCa.cellv (i := 0 + 1) rfl
  have a2 := hCa.cellv (i := 0 + 2) rfl
  have p0 := hCp.cellv (i := 0) rfl
  have p1 := hCp.cellv (i := 0 + 1) rfl
  have p2 := hCp.cellv (i := 0 + 2) rfl
  clear hp hCp hCa hCc hA hta hC hR h8 h82 hU hP m1 m3 k1 k3
  simp only [seqAt]
  go_upto_region 15 with (go_at_call 11; refine (sameProg_any w1 _ _ Aa Ap (prgI bs).length ca cp (prgI bs) (prgS bs) (prgC bs) (HA.out.insts MN.out) Hp.out (by omega)).mono ?_; rintro e w2 ⟨rfl, hU2⟩)
  have HV2 := hideP hU2
  have hs2 := hU2.size
  clear hU2 a0 a1 a2 p0 p1 p2
  have HR2 := hideP (HR.out.upd HV2.out (fun _ _ => not_nob))
  go_upto_region 17 with (at_builtin; refine wpList_append_reads rfl _ _ 30 rfl w2.heap.size 5 i0 (.int .u8 0) 1 1 Tryd.underlying30 hi0 hz0 hz1 hz2 rfl (by decide) (.slice none 0 0) 0 [] rfl (World.ownsRow_nil _ _ _ _) _ (some ⟨g, 0, none⟩) n cap (bytv bs2) rfl HR2.out (bytv_one bs2) (by unfold maxLen; omega) (by omega) (Nat.le_refl _) ?_; intro vb w3 ob gr hatb; simp only [Nat.zero_add, List.nil_append] at ob; obtain ⟨Ab, cb, rfl⟩ := own_shape ob)
  have HO3 := hideP (OwnT.of ob)
  have U3 := (Upd.refl Nob w2).grown gr (by simp [Value.ownBlock])
  have HV3 := hideP (HV2.out.trans U3 (fun _ _ h => h))
  have hs3 := U3.size
  clear ob gr hatb U3
  go_upto_region 18 with (go_at_call 14; refine (refLoad_prg w3 _ Ab n cb bs2 (Reads.of_ownT HO3.out) H82.out (fun b hb => HO3.out.lt hb) HO3.out.cap_).mono ?_; rintro e w4 ⟨Aq, cq, gq, rfl, hQ4, hU4⟩)
  have HCq := hideP (Cells.new w4 24 #[.slice Aq (prgI bs2).length cq, .int .i64 (prgS bs2), .int .i64 (prgC bs2)])
  have HV4 := hideP ((HV3.out.trans hU4 (fun _ _ h => h)).alloc (.cells #[.slice Aq (prgI bs2).length cq, .int .i64 (prgS bs2), .int .i64 (prgC bs2)] 24))
  have HQ4 := hideP ((hQ4.instsLt KN.out).upd ((Upd.refl Nob w4).alloc (.cells #[.slice Aq (prgI bs2).length cq, .int .i64 (prgS bs2), .int .i64 (prgC bs2)] 24)) (fun _ _ => not_nob))
  have hs4 := hU4.size
  have hqb : w4.heap.size < (w4.alloc (.cells #[.slice Aq (prgI bs2).length cq, .int .i64 (prgS bs2), .int .i64 (prgC bs2)] 24)).heap.size := by simp
  clear hQ4 hU4
  generalize w4.alloc (.cells #[.slice Aq (prgI bs2).length cq, .int .i64 (prgS bs2), .int .i64 (prgC bs2)] 24) = w5 at *
  generalize w4.heap.size = qB at *
  go_upto_region 19 with (go_at_call 15; refine (load_prg w5 _ (some ⟨g, 0, none⟩) n cap bs2 (HR.out.upd HV4.out (fun _ _ => not_nob)) H82.out (fun b (hb : b = g) => by omega) hcap).mono ?_; rintro e w6 ⟨Ad, cd, gd, rfl, hD6, hU6⟩)
  have HCd := hideP (Cells.new w6 24 #[.slice Ad (prgI bs2).length cd, .int .i64 (prgS bs2), .int .i64 (prgC bs2)])
  have V6 := (hU6.alloc (.cells #[.slice Ad (prgI bs2).length cd, .int .i64 (prgS bs2), .int .i64 (prgC bs2)] 24))
  have HV6 := hideP (HV4.out.trans V6 (fun _ _ h => h))
  have HCq6 := hideP (HCq.out.upd V6 not_nob)
  have HQ6 := hideP (HQ4.out.upd V6 (fun _ _ => not_nob))
  have HD6 := hideP (hD6.upd ((Upd.refl Nob w6).alloc (.cells #[.slice Ad (prgI bs2).length cd, .int .i64 (prgS bs2), .int .i64 (prgC bs2)] 24)) (fun _ _ => not_nob))
  have hs6 := hU6.size
  have hdb : w6.heap.size < (w6.alloc (.cells #[.slice Ad (prgI bs2).length cd, .int .i64 (prgS bs2), .int .i64 (prgC bs2)] 24)).heap.size := by simp
  clear hD6 hU6 V6 HCq HQ4
  generalize w6.alloc (.cells #[.slice Ad (prgI bs2).length cd, .int .i64 (prgS bs2), .int .i64 (prgC bs2)] 24) = w7 at *
  generalize w6.heap.size = dB at *
  have d0 := HCd.out.cellv (i := 0) rfl
  have d1 := HCd.out.cellv (i := 0 + 1) rfl
  have d2 := HCd.out.cellv (i := 0 + 2) rfl
  have q0 := HCq6.out.cellv (i := 0) rfl
  have q1 := HCq6.out.cellv (i := 0 + 1) rfl
  have q2 := HCq6.out.cellv (i := 0 + 2) rfl
  go_upto_region 20 with (go_at_call 11; refine (sameProg_any w7 _ _ Ad Aq (prgI bs2).length cd cq (prgI bs2) (prgS bs2) (prgC bs2) (HD6.out.insts KN.out) HQ6.out (by omega)).mono ?_; rintro e w8 ⟨rfl, hU8⟩)
  have hs8 := hU8.size
  have HV8 := hideP (HV6.out.trans hU8 (fun _ _ h => h))
  have HD8 := hideP (HD6.out.upd hU8 (fun _ _ => not_nob))
  have HCd8 := HCd.out.upd hU8 not_nob
  have HCa8 := HCa.out.upd HV8.out not_nob
  have HCc8 := HCc.out.upd HV8.out not_nob
  clear d0 d1 d2 q0 q1 q2 hU8
  have d0 := HCd8.cellv (i := 0) rfl
  have d1 := HCd8.cellv (i := 0 + 1) rfl
  have d2 := HCd8.cellv (i := 0 + 2) rfl
  have a0 := HCa8.cellv (i := 0) rfl
  have a1 := HCa8.cellv (i := 0 + 1) rfl
  have a2 := HCa8.cellv (i := 0 + 2) rfl
  have c0 := HCc8.cellv (i := 0) rfl
  have c1 := HCc8.cellv (i := 0 + 1) rfl
  have c2 := HCc8.cellv (i := 0 + 2) rfl
  have HPS := hideP (show Prgs (w8.alloc (.cells #[.slice Aa (prgI bs).length ca, .int .i64 (prgS bs), .int .i64 (prgC bs), .slice Ac (prgI bs).length cc, .int .i64 (prgS bs), .int .i64 (prgC bs), .slice Ad (prgI bs2).length cd, .int .i64 (prgS bs2), .int .i64 (prgC bs2)] 24)) b1 [⟨Aa, ca, prgI bs, ga, prgS bs, prgC bs⟩, ⟨Ac, cc, prgI bs, gc, prgS bs, prgC bs⟩, ⟨Ad, cd, prgI bs2, gd, prgS bs2, prgC bs2⟩] from by
    have hAl := (Upd.refl Nob w8).alloc (.cells #[.slice Aa (prgI bs).length ca, .int .i64 (prgS bs), .int .i64 (prgC bs), .slice Ac (prgI bs).length cc, .int .i64 (prgS bs), .int .i64 (prgC bs), .slice Ad (prgI bs2).length cd, .int .i64 (prgS bs2), .int .i64 (prgC bs2)] 24)
    have uA := (HA.out.upd HV8.out (fun _ _ => not_nob)).upd hAl (fun _ _ => not_nob)
    have uC := (HC.out.upd HV8.out (fun _ _ => not_nob)).upd hAl (fun _ _ => not_nob)
    have uD := HD8.out.upd hAl (fun _ _ => not_nob)
    have tC := HC.out.below
    refine ⟨fun p hp => ?_, ?_, fun p hp => ?_, fun p hp => ?_, by simp⟩
    · simp at hp
      rcases hp with rfl | rfl | rfl
      · exact uA
      · exact uC.base_ hb12
      · exact uD.base_ (by omega)
    · refine List.Pairwise.cons (fun q hq => ?_) (List.Pairwise.cons (fun q hq => ?_) (List.Pairwise.cons (fun q hq => by simp at hq) List.Pairwise.nil))
      · simp at hq
        rcases hq with rfl | rfl
        · exact apart_of uA HTA.out uC
        · exact apart_of uA HTA.out (uD.base_ (by omega))
      · simp at hq
        subst hq
        exact apart_of uC tC (uD.base_ (by omega))
    · simp at hp
      rcases hp with rfl | rfl | rfl
      · exact m2
      · exact m2
      · exact k2
    · simp at hp
      rcases hp with rfl | rfl | rfl
      · exact MS.out
      · exact MS.out
      · exact KS.out)
  have HLB := hideP (Cells.new w8 24 #[.slice Aa (prgI bs).length ca, .int .i64 (prgS bs), .int .i64 (prgC bs), .slice Ac (prgI bs).length cc, .int .i64 (prgS bs), .int .i64 (prgC bs), .slice Ad (prgI bs2).length cd, .int .i64 (prgS bs2), .int .i64 (prgC bs2)])
  have HV9 := hideP (HV8.out.alloc (.cells #[.slice Aa (prgI bs).length ca, .int .i64 (prgS bs), .int .i64 (prgC bs), .slice Ac (prgI bs).length cc, .int .i64 (prgS bs), .int .i64 (prgC bs), .slice Ad (prgI bs2).length cd, .int .i64 (prgS bs2), .int .i64 (prgC bs2)] 24))
  have hs9 := HV9.out.size
  go_upto_region 21 with (go_at_call 17; refine (owned_any _ b1 w8.heap.size 3 _ HPS.out HLB.out (by omega)).mono ?_; rintro e we ⟨rfl, hUe⟩)
  have HVe := hideP ((HU.out.trans HV9.out (fun _ _ h => h)).trans hUe (fun b hb (h : b1 ≤ b) => by omega))
  clear hUe
  go_wp2_with fail
  exact HP.out _ HVe.out
end Go.Proofs.YtdbdokjlcdogiaaDoor

/-
  The walk of heronlaw10.CodeLoads. Printed by tools/mkLoadsF.py.
-/
namespace Go.Proofs.YtdbdokjlcdogiaaDoor
open Go.RowKit
set_option linter.unusedVariables false

structure LSt (w w1 : World) (g n pB aB cB b1 b2 cp ca cc : Nat) (bs bs2 : List Int) (Ap Aa Ac : Option Addr) (ga gc : List (Option Addr × Nat)) : Prop where
  hp : InstsR w1 (fun b => b < w1.heap.size) Ap (prgI bs).length (prgI bs)
  hCp : Cells w1 pB 24 #[.slice Ap (prgI bs).length cp, .int .i64 (prgS bs), .int .i64 (prgC bs)]
  hCa : Cells w1 aB 24 #[.slice Aa (prgI bs).length ca, .int .i64 (prgS bs), .int .i64 (prgC bs)]
  hCc : Cells w1 cB 24 #[.slice Ac (prgI bs).length cc, .int .i64 (prgS bs), .int .i64 (prgC bs)]
  hA : ProgW w1 b1 Aa ca (prgI bs) ga
  hta : Below_ b2 Aa ga
  hC : ProgW w1 b2 Ac cc (prgI bs) gc
  hR : Reads w1 (fun b => b = g) 1 (some ⟨g, 0, none⟩) n (bytv bs2)
  h82 : Bys bs2
  hg : g < w1.heap.size
  hb1 : w.heap.size ≤ b1
  hb12 : b1 ≤ b2
  hb2 : b2 ≤ w1.heap.size
  hU : Upd Nob w w1
theorem InstsR.mono {w : World} {S S' : Nat → Prop} {A : Option Addr} {n : Nat} {is : List PInst} (h : InstsR w S A n is) (hS : ∀ b, S b → S' b) : InstsR w S' A n is :=
  ⟨h.len, fun i x hx => by
    obtain ⟨ad, g, o, B, m, c, e, e2, hs, hg, hr, hi, hc⟩ := h.at_ i x hx
    exact ⟨ad, g, o, B, m, c, e, e2, hS _ hs, hg, ⟨hr.r.weaken hS, hr.i, hr.n⟩, hi, hc⟩⟩
theorem reads_two (w : World) (a b : Value) : Reads (w.alloc (.cells #[a, b] 5)) (fun k => k = w.heap.size) 1 (some ⟨w.heap.size, 0, none⟩) 2 [a, b] :=
  ⟨rfl, fun _ => ⟨_, rfl, by simp, rfl, World.news_of_block (cs := #[a, b]) (t := 5) (fr := (0, 0)) (heap_alloc_new w _)⟩⟩
set_option maxRecDepth 100000 in
set_option maxHeartbeats 4000000 in
theorem loads_front (Q : Exit → Act → World → Prop) (K rest : Code) (w : World) (A0 : Option Addr) (n c0 : Nat) (at_ tb : Int) (bs : List Int) (S0 : Nat → Prop) (x3 x4 x5 x6 x7 x8 x9 x10 x11 x12 x13 x14 x15 x16 x17 x18 x19 x20 x21 x22 x23 x24 x25 x26 x27 x28 x29 x30 x31 x32 x33 x34 x35 x36 x37 x38 x39 x40 x41 x42 x43 x44 x45 x46 x47 x48 x49 x50 x51 x52 x53 x54 x55 x56 x57 x58 x59 x60 x61 x62 x63 x64 x65 x66 x67 x68 x69 x70 x71 x72 x73 x74 x75 x76 x77 x78 x79 x80 x81 x82 x83 x84 x85 x86 x87 x88 x89 x90 x91 x92 x93 x94 x95 x96 x97 x98 x99 x100 x101 x102 x103 x104 x105 x106 x107 x108 x109 x110 x111 x112 x113 x114 x115 x116 x117 x118 x119 x120 x121 x122 x123 x124 x125 x126 x127 x128 x129 x130 x131 x132 x133 x134 x135 x136 x137 x138 x139 x140 x141 x142 x143 x144 x145 x146 x147 x148 x149 x150 x151 x152 x153 x154 : Value) (hK : Tryd.f4.body = some K)
    (h : Reads w S0 1 A0 n (bytv bs)) (hS0 : ∀ b, S0 b → b < w.heap.size) (h8 : Bys bs) (hn : n ≤ 140737488351232) (hnc : n ≤ c0) (hat : In64 at_) (htb : 0 ≤ tb ∧ tb ≤ 255) (hpt : PowTab w) (hwt : WordTab w)
    (hnext : ∀ (w1 : World) (g pB aB cB b1 b2 cp ca cc : Nat) (bs2 : List Int) (Ap Aa Ac : Option Addr) (ga gc : List (Option Addr × Nat)) (x0 x1 x2 x3 x4 x5 x6 x7 x9 x10 x13 x15 x16 x17 x18 x19 x20 x21 x22 x23 x24 x25 x26 x27 x28 x29 x30 x31 x32 x33 x34 x35 x36 x37 x38 x39 x40 x41 x42 x43 x44 x45 x46 x47 x48 x49 x50 x51 x52 x53 x54 x55 x56 x57 x58 x59 x60 x61 x62 x63 x64 x65 x66 x67 x68 x69 x70 x71 x72 x73 x74 x75 x76 x77 x78 x79 x80 x81 x82 x83 x84 x85 x86 x87 x88 x89 x90 x91 x92 x93 x94 x95 x96 x97 x98 x99 x100 x101 x102 x103 x104 x105 x106 x107 x108 x109 x110 x111 x112 x113 x114 x115 x116 x117 x118 x119 x120 x121 x122 x123 x124 x125 x126 x127 x128 x129 x130 x131 x132 x133 x134 x135 x136 x137 x138 x139 x140 x141 x142 x143 x144 x145 x146 x147 x148 x149 x150 x151 x152 x153 x154 : Value), LSt w w1 g n pB aB cB b1 b2 cp ca cc bs bs2 Ap Aa Ac ga gc → rest.wp Tryd.prog Q ⟨#[x0, x1, x2, x3, x4, x5, x6, x7, .pointer (some ⟨pB, 0, none⟩), x9, x10, .slice (some ⟨g, 0, none⟩) n (n + 2), .pointer (some ⟨aB, 0, none⟩), x13, .pointer (some ⟨cB, 0, none⟩), x15, x16, x17, x18, x19, x20, x21, x22, x23, x24, x25, x26, x27, x28, x29, x30, x31, x32, x33, x34, x35, x36, x37, x38, x39, x40, x41, x42, x43, x44, x45, x46, x47, x48, x49, x50, x51, x52, x53, x54, x55, x56, x57, x58, x59, x60, x61, x62, x63, x64, x65, x66, x67, x68, x69, x70, x71, x72, x73, x74, x75, x76, x77, x78, x79, x80, x81, x82, x83, x84, x85, x86, x87, x88, x89, x90, x91, x92, x93, x94, x95, x96, x97, x98, x99, x100, x101, x102, x103, x104, x105, x106, x107, x108, x109, x110, x111, x112, x113, x114, x115, x116, x117, x118, x119, x120, x121, x122, x123, x124, x125, x126, x127, x128, x129, x130, x131, x132, x133, x134, x135, x136, x137, x138, x139, x140, x141, x142, x143, x144, x145, x146, x147, x148, x149, x150, x151, x152, x153, x154], []⟩ w1) :
    (Code.seq (fstAt K 0) (Code.seq (fstAt K 1) (Code.seq (fstAt K 2) (Code.seq (fstAt K 3) (Code.seq (fstAt K 4) (Code.seq (fstAt K 5) (Code.seq (fstAt K 6) (Code.seq (fstAt K 7) (Code.seq (fstAt K 8) (Code.seq (fstAt K 9) (Code.seq (fstAt K 10) (Code.seq (fstAt K 11) rest)))))))))))).wp Tryd.prog Q ⟨#[.slice A0 n c0, .int .i64 at_, .int .u8 tb, x3, x4, x5, x6, x7, x8, x9, x10, x11, x12, x13, x14, x15, x16, x17, x18, x19, x20, x21, x22, x23, x24, x25, x26, x27, x28, x29, x30, x31, x32, x33, x34, x35, x36, x37, x38, x39, x40, x41, x42, x43, x44, x45, x46, x47, x48, x49, x50, x51, x52, x53, x54, x55, x56, x57, x58, x59, x60, x61, x62, x63, x64, x65, x66, x67, x68, x69, x70, x71, x72, x73, x74, x75, x76, x77, x78, x79, x80, x81, x82, x83, x84, x85, x86, x87, x88, x89, x90, x91, x92, x93, x94, x95, x96, x97, x98, x99, x100, x101, x102, x103, x104, x105, x106, x107, x108, x109, x110, x111, x112, x113, x114, x115, x116, x117, x118, x119, x120, x121, x122, x123, x124, x125, x126, x127, x128, x129, x130, x131, x132, x133, x134, x135, x136, x137, x138, x139, x140, x141, x142, x143, x144, x145, x146, x147, x148, x149, x150, x151, x152, x153, x154], []⟩ w := by
  injection hK with hK
  subst hK
  obtain ⟨i0, hi0, hz0, hz1, hz2⟩ := info_parts cinfo_u8
  have hlen : bs.length = n := by have := h.1; simpa [bytv] using this
  have HPT := hideP hpt
  have HWT := hideP hwt
  have HR := hideP h
  have H8 := hideP h8
  have HS0 := hideP hS0
  have HN := hideP hnext
  have HLEN := hideP hlen
  obtain ⟨m1, m2, m3⟩ := prg_num h8
  have MN := hideP m1
  clear hpt hwt h h8 hS0 hnext m1 m3 hlen
  simp only [fstAt]
  go_upto_region 2 with (go_at_call 7; refine (awake_any _ HPT.out HWT.out).mono ?_; rintro e w1 ⟨rfl, hU1⟩)
  have HU1 := hideP hU1
  have hs1 := hU1.size
  clear hU1
  go_upto_region 3 with (go_at_call 14; refine (refLoad_prg w1 S0 A0 n c0 bs (HR.out.upd HU1.out (fun _ _ => not_nob)) H8.out (fun b hb => by have := HS0.out b hb; omega) hnc).mono ?_; rintro e w2 ⟨Ap, cp, gp, rfl, hP2, hU2⟩)
  have V2 := hU2.alloc (.cells #[.slice Ap (prgI bs).length cp, .int .i64 (prgS bs), .int .i64 (prgC bs)] 24)
  have HCp := hideP (Cells.new w2 24 #[.slice Ap (prgI bs).length cp, .int .i64 (prgS bs), .int .i64 (prgC bs)])
  have HP2 := hideP ((hP2.instsLt MN.out).upd ((Upd.refl Nob w2).alloc (.cells #[.slice Ap (prgI bs).length cp, .int .i64 (prgS bs), .int .i64 (prgC bs)] 24)) (fun _ _ => not_nob))
  have HU2 := hideP (HU1.out.trans V2 (fun _ _ h => h))
  have hs2 := V2.size
  have hpb : w2.heap.size < (w2.alloc (.cells #[.slice Ap (prgI bs).length cp, .int .i64 (prgS bs), .int .i64 (prgC bs)] 24)).heap.size := by simp
  clear hP2 hU2 V2
  generalize hw3 : w2.alloc (.cells #[.slice Ap (prgI bs).length cp, .int .i64 (prgS bs), .int .i64 (prgC bs)] 24) = w3 at *
  clear hw3
  generalize w2.heap.size = pB at *
  have k2 : IntKind.i64.wrap ((n : Int) + 2) = (n : Int) + 2 := by rw [IntKind.wrap_i64]; omega
  have HR3 := hideP (HR.out.upd HU2.out (fun _ _ => not_nob))
  go_wp2_with (first | (at_make; refine wpList_make_own w3 rfl _ (.tmp 35) 30 rfl w3.heap.size 5 i0 _ 1 Tryd.underlying30 hi0 hz0 hz1 .i64 .i64 ((n : Int) + 2) (n + 2) rfl rfl (by omega) (by rw [hz2]; omega) (by unfold maxLen; omega) (Nat.le_refl _) ?_) | fail)
  intro w4 o4 g4
  have U4 := (Upd.refl Nob w3).grown g4 (by simp)
  have hs4 := U4.size
  have hg4 : w3.heap.size < w4.heap.size := own_blt o4 (b := w3.heap.size) rfl
  have HU4 := hideP (HU2.out.trans U4 (fun _ _ h => h))
  have HP4 := hideP (HP2.out.upd U4 (fun _ _ => not_nob))
  have HCp4 := hideP (HCp.out.upd U4 not_nob)
  have HO4 := hideP o4
  have HR4 := hideP (HR3.out.upd U4 (fun _ _ => not_nob))
  clear o4 g4 U4 HP2 HCp HR3
  go_wp2_with (at_builtin; refine wpList_append_room_reads _ rfl _ _ 30 rfl w3.heap.size 5 i0 1 Tryd.underlying30 hi0 hz1 w3.heap.size 0 (n + 2) [] rfl HO4.out S0 A0 n c0 (bytv bs) rfl HR4.out (bytv_one bs) (by omega) ?_)
  intro w5 o5 g5
  try simp only [Nat.zero_add, List.nil_append] at o5
  try rw [Nat.zero_add]
  have U5 := (Upd.refl (fun b => b = w3.heap.size) w4).grown g5 (fun b hb _ => by injection hb with hb; exact hb.symm)
  have hs5 := U5.size
  have HU5 := hideP (HU4.out.trans U5 (fun b hb (h : b = w3.heap.size) => by omega))
  have HP5 := hideP (HP4.out.upd U5 (fun b (hb : b < pB) (h : b = w3.heap.size) => by omega))
  have HCp5 := hideP (HCp4.out.upd U5 (fun (h : pB = w3.heap.size) => by omega))
  have HO5 := hideP o5
  clear o5 g5 U5 HP4 HCp4 HO4 HR4
  go_wp2_with (at_builtin; refine wpList_append_room_reads _ rfl _ _ 30 rfl w3.heap.size 5 i0 1 Tryd.underlying30 hi0 hz1 w3.heap.size n (n + 2) (bytv bs) rfl (own_upd HO5.out ((Upd.refl Nob w5).alloc _) (fun _ _ => not_nob)) _ (some ⟨w5.heap.size, 0, none⟩) 2 2 [.int .u8 77, .int .u8 78] rfl (reads_two w5 _ _) (by intro u hu; simp at hu; rcases hu with rfl | rfl <;> rfl) (by omega) ?_)
  intro w6 o6 g6
  have U6 := ((Upd.refl (fun b => b = w3.heap.size) w5).alloc (.cells #[.int .u8 77, .int .u8 78] 5)).grown g6 (fun b hb _ => by injection hb with hb; exact hb.symm)
  have hs6 := U6.size
  have HU6 := hideP (HU5.out.trans U6 (fun b hb (h : b = w3.heap.size) => by omega))
  have HP6 := hideP (HP5.out.upd U6 (fun b (hb : b < pB) (h : b = w3.heap.size) => by omega))
  have HCp6 := hideP (HCp5.out.upd U6 (fun (h : pB = w3.heap.size) => by omega))
  have e77 : bytv bs ++ [.int .u8 77, .int .u8 78] = bytv (bs ++ [77, 78]) := by rw [bytv_append]; rfl
  rw [e77] at o6
  have HO6 := hideP o6
  clear o6 g6 U6 HP5 HCp5 HO5 e77
  obtain ⟨g, hg⟩ : ∃ g, g = w3.heap.size := ⟨_, rfl⟩
  rw [← hg] at HO6 hpb hg4 hs4 ⊢
  have hgl : g < w6.heap.size := by omega
  have hpg : pB < g := hpb
  have hwg : w.heap.size ≤ g := by omega
  clear hs4 hs5 hs6 hs2 hg4 hpb HU2 HU4 HU5 hg
  have hcut : (n : Int) ≤ ((n + 2 : Nat) : Int) := by omega
  have HRI := hideP (show Reads w6 (fun b => b = g) 1 (some ⟨g, 0, none⟩) n (bytv bs) from by
    have h1 := reads_take (m := n) ((Reads.of_own HO6.out).weaken (S' := fun b => b = g) (fun b hb => by injection hb with hb; exact hb.symm)) (by omega)
    rwa [List.take_left' HLEN.out] at h1)
  go_upto_region 6 with (go_at_call 15; refine (load_prg w6 _ (some ⟨g, 0, none⟩) n (n + 2) bs HRI.out H8.out (fun b (hb : b = g) => by omega) (by omega)).mono ?_; rintro e w7 ⟨Aa, ca, ga, rfl, hA7, hU7⟩)
  have V7 := hU7.alloc (.cells #[.slice Aa (prgI bs).length ca, .int .i64 (prgS bs), .int .i64 (prgC bs)] 24)
  have HCa := hideP (Cells.new w7 24 #[.slice Aa (prgI bs).length ca, .int .i64 (prgS bs), .int .i64 (prgC bs)])
  have HA8 := hideP (hA7.upd ((Upd.refl Nob w7).alloc (.cells #[.slice Aa (prgI bs).length ca, .int .i64 (prgS bs), .int .i64 (prgC bs)] 24)) (fun _ _ => not_nob))
  have HT8 := hideP hA7.below
  have HU8 := hideP (HU6.out.trans V7 (fun _ _ h => h))
  have HP8 := hideP (HP6.out.upd V7 (fun _ _ => not_nob))
  have HCp8 := hideP (HCp6.out.upd V7 not_nob)
  have HO8 := hideP (own_upd HO6.out V7 (fun _ _ => not_nob))
  have HRI8 := hideP (HRI.out.upd V7 (fun _ _ => not_nob))
  have hs7 := hU7.size
  have hab : w7.heap.size < (w7.alloc (.cells #[.slice Aa (prgI bs).length ca, .int .i64 (prgS bs), .int .i64 (prgC bs)] 24)).heap.size := by simp
  clear hA7 hU7 V7 HP6 HCp6 HO6 HRI HU6
  generalize hw8 : w7.alloc (.cells #[.slice Aa (prgI bs).length ca, .int .i64 (prgS bs), .int .i64 (prgC bs)] 24) = w8 at *
  clear hw8
  obtain ⟨aB, haB⟩ : ∃ aB, aB = w7.heap.size := ⟨_, rfl⟩
  rw [← haB] at HCa HT8 hab hs7 ⊢
  clear haB
  go_upto_region 7 with (go_at_call 15; refine (load_prg w8 _ (some ⟨g, 0, none⟩) n (n + 2) bs HRI8.out H8.out (fun b (hb : b = g) => by omega) (by omega)).mono ?_; rintro e w9 ⟨Ac, cc, gc, rfl, hC9, hU9⟩)
  have V9 := hU9.alloc (.cells #[.slice Ac (prgI bs).length cc, .int .i64 (prgS bs), .int .i64 (prgC bs)] 24)
  have HCc := hideP (Cells.new w9 24 #[.slice Ac (prgI bs).length cc, .int .i64 (prgS bs), .int .i64 (prgC bs)])
  have HC10 := hideP (hC9.upd ((Upd.refl Nob w9).alloc (.cells #[.slice Ac (prgI bs).length cc, .int .i64 (prgS bs), .int .i64 (prgC bs)] 24)) (fun _ _ => not_nob))
  have HA10 := hideP (HA8.out.upd V9 (fun _ _ => not_nob))
  have HCa10 := hideP (HCa.out.upd V9 not_nob)
  have HU10 := hideP (HU8.out.trans V9 (fun _ _ h => h))
  have HP10 := hideP (HP8.out.upd V9 (fun _ _ => not_nob))
  have HCp10 := hideP (HCp8.out.upd V9 not_nob)
  have HO10 := hideP (own_upd HO8.out V9 (fun _ _ => not_nob))
  have HRI10 := hideP (HRI8.out.upd V9 (fun _ _ => not_nob))
  have hs9 := hU9.size
  have hcb : w9.heap.size < (w9.alloc (.cells #[.slice Ac (prgI bs).length cc, .int .i64 (prgS bs), .int .i64 (prgC bs)] 24)).heap.size := by simp
  clear hC9 hU9 V9 HP8 HCp8 HO8 HRI8 HU8 HA8 HCa
  generalize hw10 : w9.alloc (.cells #[.slice Ac (prgI bs).length cc, .int .i64 (prgS bs), .int .i64 (prgC bs)] 24) = w10 at *
  clear hw10
  obtain ⟨cB, hcB⟩ : ∃ cB, cB = w9.heap.size := ⟨_, rfl⟩
  rw [← hcB] at HCc hcb hs9 ⊢
  clear hcB
  have a0 := HCa10.out.cellv (i := 0) rfl
  have a1 := HCa10.out.cellv (i := 0 + 1) rfl
  have a2 := HCa10.out.cellv (i := 0 + 2) rfl
  have p0 := HCp10.out.cellv (i := 0) rfl
  have p1 := HCp10.out.cellv (i := 0 + 1) rfl
  have p2 := HCp10.out.cellv (i := 0 + 2) rfl
  go_upto_region 8 with (go_at_call 11; refine (sameProg_any w10 _ _ Aa Ap (prgI bs).length ca cp (prgI bs) (prgS bs) (prgC bs) (HA10.out.insts MN.out) HP10.out (by omega)).mono ?_; rintro e w11 ⟨rfl, hU11⟩)
  clear a0 a1 a2 p0 p1 p2
  have HP11 := hideP (HP10.out.upd hU11 (fun _ _ => not_nob))
  have HC11 := hideP (HC10.out.upd hU11 (fun _ _ => not_nob))
  have HA11 := hideP (HA10.out.upd hU11 (fun _ _ => not_nob))
  have HCa11 := hideP (HCa10.out.upd hU11 not_nob)
  have HCc11 := hideP (HCc.out.upd hU11 not_nob)
  have HCp11 := hideP (HCp10.out.upd hU11 not_nob)
  have HO11 := hideP (own_upd HO10.out hU11 (fun _ _ => not_nob))
  have HRI11 := hideP (HRI10.out.upd hU11 (fun _ _ => not_nob))
  have HU11 := hideP (HU10.out.trans hU11 (fun _ _ h => h))
  have hs11 := hU11.size
  clear hU11 HP10 HC10 HA10 HCa10 HCc HCp10 HO10 HRI10 HU10
  have p0 := HCp11.out.cellv (i := 0) rfl
  have p1 := HCp11.out.cellv (i := 0 + 1) rfl
  have p2 := HCp11.out.cellv (i := 0 + 2) rfl
  have d0 := HCc11.out.cellv (i := 0) rfl
  have d1 := HCc11.out.cellv (i := 0 + 1) rfl
  have d2 := HCc11.out.cellv (i := 0 + 2) rfl
  go_upto_region 9 with (go_at_call 11; refine (sameProg_any w11 _ _ Ac Ap (prgI bs).length cc cp (prgI bs) (prgS bs) (prgC bs) (HC11.out.insts MN.out) HP11.out (by omega)).mono ?_; rintro e w12 ⟨rfl, hU12⟩)
  clear d0 d1 d2 p0 p1 p2
  have HU12 := hideP hU12
  clear hU12
  go_upto_region 10 with (go_at_call 16; refine (sameBytes_any w12 (fun b => b = g) S0 (some ⟨g, 0, none⟩) A0 n (n + 2) c0 bs (HRI11.out.upd HU12.out (fun _ _ => not_nob)) (HR.out.upd (HU11.out.trans HU12.out (fun _ _ h => h)) (fun _ _ => not_nob)) (by omega)).mono ?_; rintro e w13 ⟨rfl, hU13⟩)
  have V13 := HU12.out.trans hU13 (fun _ _ h => h)
  have HP13 := hideP (HP11.out.upd V13 (fun _ _ => not_nob))
  have HC13 := hideP (HC11.out.upd V13 (fun _ _ => not_nob))
  have HA13 := hideP (HA11.out.upd V13 (fun _ _ => not_nob))
  have HCa13 := hideP (HCa11.out.upd V13 not_nob)
  have HCc13 := hideP (HCc11.out.upd V13 not_nob)
  have HCp13 := hideP (HCp11.out.upd V13 not_nob)
  have o13 := own_upd HO11.out V13 (fun _ _ => not_nob)
  have HRI13 := hideP (HRI11.out.upd V13 (fun _ _ => not_nob))
  have HU13 := hideP (HU11.out.trans V13 (fun _ _ h => h))
  have hs13 := V13.size
  have h77 : w13.cell? ⟨g, n, none⟩ = some (.int .u8 77) := by
    rw [World.ownsRow.cellAt o13 n (by omega)]
    simp [bytv, ← HLEN.out]
  have h78 : w13.cell? ⟨g, n + 1, none⟩ = some (.int .u8 78) := by
    rw [World.ownsRow.cellAt o13 (n + 1) (by omega)]
    simp [bytv, ← HLEN.out]
  have f13 : ∀ k, w13.frozen? ⟨g, k, none⟩ = false := fun k => World.ownsRow.frozenAt o13 k
  have HF13 := hideP f13
  have HO13 := hideP o13
  clear hU13 V13 o13 f13 HP11 HC11 HA11 HCa11 HCc11 HCp11 HO11 HRI11 HU11 HU12
  have q1 : (n : Int) < ((n + 2 : Nat) : Int) := by omega
  have q2 : (n : Int) + 1 < ((n + 2 : Nat) : Int) := by omega
  have q3 : IntKind.i64.wrap ((n : Int) + 1) = (n : Int) + 1 := by rw [IntKind.wrap_i64]; omega
  have q4 : 0 ≤ (n : Int) + 1 := by omega
  go_upto_region 12 with fail
  have q5 : (n : Int) ≤ ((n + 2 : Nat) : Int) := by omega
  have hgw : g < w13.heap.size := by omega
  have HTA := hideP (show Below_ w8.heap.size Aa ga from ⟨fun b hb => Nat.lt_trans (HT8.out.i b hb) hab, fun k B cc b h1 h2 => Nat.lt_trans (HT8.out.r k B cc b h1 h2) hab⟩)
  by_cases hgo : 0 < n ∧ 0 ≤ at_
  · obtain ⟨hn0, hat0⟩ := hgo
    have g1 : (0 : Int) < (n : Int) := by omega
    have g2 : ¬ (n : Int) = 0 := by omega
    obtain ⟨k, hk⟩ : ∃ k : Nat, k = at_.toNat % n := ⟨_, rfl⟩
    have hkl : k < n := by rw [hk]; exact Nat.mod_lt _ hn0
    have hk1 : at_ % (n : Int) = (k : Int) := by rw [hk]; exact emod_nat hat0
    have g3 : (k : Int) < (n : Int) := by omega
    clear hk
    have fk := HF13.out k
    have ck := World.ownsRow.cellAt HO13.out k (by omega)
    obtain ⟨u, hu⟩ : ∃ u, (bytv (bs ++ [77, 78]))[k]? = some u := ⟨_, List.getElem?_eq_getElem (by simp [bytv, HLEN.out]; omega)⟩
    rw [hu] at ck
    have HST := hideP (World.ownsRow.stored HO13.out k (.int .u8 tb)).1
    have hlb := HLEN.out
    clear hu h77 h78 q1 q2 q3 q4 q5
    go_wp2_with fail
    have U14 : Upd (fun b => b = g) w13 (w13.setCell ⟨g, k, none⟩ (.int .u8 tb)) := upd_cell
    have hR14 : Reads (w13.setCell ⟨g, k, none⟩ (.int .u8 tb)) (fun b => b = g) 1 (some ⟨g, 0, none⟩) n (bytv (bs.set k tb)) := by
      have o14 := HST.out
      rw [bytv_set, List.set_append_left _ _ (by omega)] at o14
      have h1 := reads_take (m := n) ((Reads.of_own o14).weaken (S' := fun b => b = g) (fun b hb => by injection hb with hb; exact hb.symm)) (by omega)
      rwa [List.take_left' (by rw [List.length_set]; exact hlb)] at h1
    have hsz : (w13.setCell ⟨g, k, none⟩ (.int .u8 tb)).heap.size = w13.heap.size := by simp [World.setCell]
    exact HN.out (w13.setCell ⟨g, k, none⟩ (.int .u8 tb)) g pB aB cB w6.heap.size w8.heap.size cp ca cc (bs.set k tb) Ap Aa Ac ga gc _ _ _ _ _ _ _ _ _ _ _ _ _ _ _ _ _ _ _ _ _ _ _ _ _ _ _ _ _ _ _ _ _ _ _ _ _ _ _ _ _ _ _ _ _ _ _ _ _ _ _ _ _ _ _ _ _ _ _ _ _ _ _ _ _ _ _ _ _ _ _ _ _ _ _ _ _ _ _ _ _ _ _ _ _ _ _ _ _ _ _ _ _ _ _ _ _ _ _ _ _ _ _ _ _ _ _ _ _ _ _ _ _ _ _ _ _ _ _ _ _ _ _ _ _ _ _ _ _ _ _ _ _ _ _ _ _ _ _ _ _ _ _ _ _ _ _ _ _ _ _
      ⟨(HP13.out.upd U14 (fun b (hb : b < pB) (e : b = g) => by omega)).mono (fun b (hb : b < pB) => by rw [hsz]; omega), HCp13.out.upd U14 (fun (e : pB = g) => by omega), HCa13.out.upd U14 (fun (e : aB = g) => by omega), HCc13.out.upd U14 (fun (e : cB = g) => by omega),
        HA13.out.upd U14 (fun b hb (e : b = g) => by omega), HTA.out, HC13.out.upd U14 (fun b hb (e : b = g) => by omega), hR14, set_byte H8.out htb, by rw [hsz]; exact hgw, by omega, by omega, by rw [hsz]; omega, HU13.out.setCell ⟨g, k, none⟩ (.int .u8 tb) (fun h => absurd h (by show ¬ g < _; omega))⟩
  · have HLS := hideP (show LSt w w13 g n pB aB cB w6.heap.size w8.heap.size cp ca cc bs bs Ap Aa Ac ga gc from
      ⟨HP13.out.mono (fun b (hb : b < pB) => by omega), HCp13.out, HCa13.out, HCc13.out, HA13.out, HTA.out, HC13.out, HRI13.out, H8.out, hgw, by omega, by omega, by omega, HU13.out⟩)
    clear h77 h78 q1 q2 q3 q4 q5
    by_cases hn0 : 0 < n
    · have g1 : (0 : Int) < (n : Int) := by omega
      have g2 : ¬ 0 ≤ at_ := fun e => hgo ⟨hn0, e⟩
      have g3 : at_ < 0 := by omega
      clear hgo
      go_wp2_with fail
      exact HN.out w13 g pB aB cB w6.heap.size w8.heap.size cp ca cc bs Ap Aa Ac ga gc _ _ _ _ _ _ _ _ _ _ _ _ _ _ _ _ _ _ _ _ _ _ _ _ _ _ _ _ _ _ _ _ _ _ _ _ _ _ _ _ _ _ _ _ _ _ _ _ _ _ _ _ _ _ _ _ _ _ _ _ _ _ _ _ _ _ _ _ _ _ _ _ _ _ _ _ _ _ _ _ _ _ _ _ _ _ _ _ _ _ _ _ _ _ _ _ _ _ _ _ _ _ _ _ _ _ _ _ _ _ _ _ _ _ _ _ _ _ _ _ _ _ _ _ _ _ _ _ _ _ _ _ _ _ _ _ _ _ _ _ _ _ _ _ _ _ _ _ _ _ _ HLS.out
    · have g1 : ¬ (0 : Int) < (n : Int) := by omega
      clear hgo
      go_wp2_with fail
      exact HN.out w13 g pB aB cB w6.heap.size w8.heap.size cp ca cc bs Ap Aa Ac ga gc _ _ _ _ _ _ _ _ _ _ _ _ _ _ _ _ _ _ _ _ _ _ _ _ _ _ _ _ _ _ _ _ _ _ _ _ _ _ _ _ _ _ _ _ _ _ _ _ _ _ _ _ _ _ _ _ _ _ _ _ _ _ _ _ _ _ _ _ _ _ _ _ _ _ _ _ _ _ _ _ _ _ _ _ _ _ _ _ _ _ _ _ _ _ _ _ _ _ _ _ _ _ _ _ _ _ _ _ _ _ _ _ _ _ _ _ _ _ _ _ _ _ _ _ _ _ _ _ _ _ _ _ _ _ _ _ _ _ _ _ _ _ _ _ _ _ _ _ _ _ _ HLS.out
set_option maxRecDepth 100000 in
set_option maxHeartbeats 4000000 in
theorem loads_any (w : World) (A0 : Option Addr) (n c0 : Nat) (at_ tb : Int) (bs : List Int) (S0 : Nat → Prop) (h : Reads w S0 1 A0 n (bytv bs)) (hS0 : ∀ b, S0 b → b < w.heap.size) (h8 : ∀ x ∈ bs, 0 ≤ x ∧ x ≤ 255) (hn : n ≤ 140737488351232) (hnc : n ≤ c0) (hat : In64 at_) (htb : 0 ≤ tb ∧ tb ≤ 255) (hpt : PowTab w) (hwt : WordTab w) :
    Calls Tryd.prog 4 #[.slice A0 n c0, .int .i64 at_, .int .u8 tb] w fun e w' => e = .returned (.bool true) ∧ Upd Nob w w' := by
  go_enter Tryd.func4, Tryd.ntmps4
  refine loads_front _ _ _ w A0 n c0 at_ tb bs S0 _ _ _ _ _ _ _ _ _ _ _ _ _ _ _ _ _ _ _ _ _ _ _ _ _ _ _ _ _ _ _ _ _ _ _ _ _ _ _ _ _ _ _ _ _ _ _ _ _ _ _ _ _ _ _ _ _ _ _ _ _ _ _ _ _ _ _ _ _ _ _ _ _ _ _ _ _ _ _ _ _ _ _ _ _ _ _ _ _ _ _ _ _ _ _ _ _ _ _ _ _ _ _ _ _ _ _ _ _ _ _ _ _ _ _ _ _ _ _ _ _ _ _ _ _ _ _ _ _ _ _ _ _ _ _ _ _ _ _ _ _ _ _ _ _ _ _ _ _ _ _ _ rfl h hS0 h8 hn hnc hat htb hpt hwt ?_
  intro w1 g pB aB cB b1 b2 cp ca cc bs2 Ap Aa Ac ga gc _ _ _ _ _ _ _ _ _ _ _ _ _ _ _ _ _ _ _ _ _ _ _ _ _ _ _ _ _ _ _ _ _ _ _ _ _ _ _ _ _ _ _ _ _ _ _ _ _ _ _ _ _ _ _ _ _ _ _ _ _ _ _ _ _ _ _ _ _ _ _ _ _ _ _ _ _ _ _ _ _ _ _ _ _ _ _ _ _ _ _ _ _ _ _ _ _ _ _ _ _ _ _ _ _ _ _ _ _ _ _ _ _ _ _ _ _ _ _ _ _ _ _ _ _ _ _ _ _ _ _ _ _ _ _ _ _ _ _ _ _ _ _ _ _ _ _ _ _ _ _ L
  exact loads_rest _ _ w w1 g n (n + 2) pB aB cB b1 b2 cp ca cc bs bs2 Ap Aa Ac ga gc _ _ _ _ _ _ _ _ _ _ _ _ _ _ _ _ _ _ _ _ _ _ _ _ _ _ _ _ _ _ _ _ _ _ _ _ _ _ _ _ _ _ _ _ _ _ _ _ _ _ _ _ _ _ _ _ _ _ _ _ _ _ _ _ _ _ _ _ _ _ _ _ _ _ _ _ _ _ _ _ _ _ _ _ _ _ _ _ _ _ _ _ _ _ _ _ _ _ _ _ _ _ _ _ _ _ _ _ _ _ _ _ _ _ _ _ _ _ _ _ _ _ _ _ _ _ _ _ _ _ _ _ _ _ _ _ _ _ _ _ _ _ _ _ _ _ _ _ _ _ _ rfl L.hp L.hCp L.hCa L.hCc L.hA L.hta L.hC L.hR h8 L.h82 hn L.hg L.hb1 L.hb12 L.hb2 (by omega) L.hU (fun w' hv => ⟨rfl, hv⟩)
end Go.Proofs.YtdbdokjlcdogiaaDoor
