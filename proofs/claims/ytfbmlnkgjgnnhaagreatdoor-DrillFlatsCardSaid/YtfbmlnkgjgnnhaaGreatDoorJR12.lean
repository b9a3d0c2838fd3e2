import Derived.Test.YtfbmlnkgjgnnhaaGreatDoorJR11
import Derived.Test.YtfbmlnkgjgnnhaaGreatDoorJA22
import Derived.Test.YtfbmlnkgjgnnhaaGreatDoorJP10
set_option linter.unusedSimpArgs false
set_option linter.unusedVariables false
namespace Go.Proofs.YtfbmlnkgjgnnhaaGreatDoor
open Go.RowKit

set_option maxRecDepth 100000
set_option maxHeartbeats 8000000

/-- what walking leans on: the sheet's rows, and what was read -/
structure Fin (L : List Drl.Str) (K : List Nat) (E : List Int) (fs : Drl.RSt) : Prop where
  rel : Drl.Rel L K L.length E [] fs
  hn : L.length ≤ 65536
  hL : ∀ t ∈ L, t.length ≤ 65536

theorem RowT.left {w w' : World} {T : TypeId} {v : Value} {l : List Value} {B R : Nat} (h : RowT w T v l) (hL : Left B R w w') {c : Array Value} (hR : w.heap[R]? = some (.cells c 69 (0, 0))) (hT : T ≠ 69) (hD : T ≠ 37) : RowT w' T v l :=
  h.keep hL.keep (fun b c fz hb e => by subst e; exact ne_of_type hb hR hT rfl) hD
theorem cell_left {w w' : World} {B R : Nat} (hL : Left B R w w') {c : Array Value} (hR : w.heap[R]? = some (.cells c 69 (0, 0))) {b i : Nat} {x : Value} {c' : Array Value} {T : TypeId} {fz : Nat × Nat} (hb : w.heap[b]? = some (.cells c' T fz)) (hT : T ≠ 69) (hD : T ≠ 37) (hx : w.cell? ⟨b, i, none⟩ = some x) : w'.cell? ⟨b, i, none⟩ = some x := by
  have h1 := hL.keep.cells hb (fun e => by subst e; exact ne_of_type hb hR hT rfl) hD
  rw [← hx]
  simp [World.cell?, h1, hb]
theorem LetAt.left {w w' : World} {B R V : Nat} {v : Drl.Nums} (h : LetAt w V v) (hL : Left B R w w') {c : Array Value} (hR : w.heap[R]? = some (.cells c 69 (0, 0))) : LetAt w' V v :=
  hL.keep.cells h (ne_of_type h hR (by decide)) (by decide)

theorem ShBlk.cells {w : World} {R : Nat} {lv kv ev : Value} {cl : Int} {sv : Value} {tn : Int} {sd : Bool} {er at' : Int} (h : ShBlk w R lv kv ev cl sv tn sd er at') : w.cell? ⟨R, 0, none⟩ = some lv ∧ w.cell? ⟨R, 1, none⟩ = some kv ∧ w.cell? ⟨R, 2, none⟩ = some ev :=
  ⟨cell_of h rfl, cell_of h rfl, cell_of h rfl⟩
theorem Sh.left {w w' : World} {B R : Nat} {lv kv ev : Value} {L : List Drl.Str} {K : List Nat} {E : List Int} (h : Sh w R lv kv ev L K E) (hL : Left B R w w') {c : Array Value} (hR : w.heap[R]? = some (.cells c 69 (0, 0))) {cl : Int} {sv : Value} {tn : Int} {sd : Bool} {er at' : Int} (h' : ShBlk w' R lv kv ev cl sv tn sd er at') : Sh w' R lv kv ev L K E := by
  obtain ⟨c0, c1, c2⟩ := h'.cells
  exact ⟨c0, c1, c2, h.rl.left hL hR (by decide) (by decide), h.rk.left hL hR (by decide) (by decide), h.re.left hL hR (by decide) (by decide), h.lenK, h.lenE, h.pos⟩
/-- the cells, where the rows' blocks are known -/
theorem Sh.at_ {w : World} {R : Nat} {L : List Drl.Str} {K : List Nat} {E : List Int} {lb lc kb kc eb ec : Nat} (h : Sh w R (.slice (some ⟨lb, 0, none⟩) L.length lc) (.slice (some ⟨kb, 0, none⟩) L.length kc) (.slice (some ⟨eb, 0, none⟩) L.length ec) L K E) :
    (∀ i t, L[i]? = some t → w.cell? ⟨lb, i, none⟩ = some (strV t)) ∧ (∀ i (k : Nat), K[i]? = some k → w.cell? ⟨kb, i, none⟩ = some (.int .i64 k)) ∧ (∀ i e, E[i]? = some e → w.cell? ⟨eb, i, none⟩ = some (.int .i64 e)) := by
  obtain ⟨lb', lc', kb', kc', eb', ec', h1, h2, h3, h4, h5, h6⟩ := h.rows
  injection h1 with a1; injection a1 with a1; injection a1 with a1
  injection h2 with a2; injection a2 with a2; injection a2 with a2
  injection h3 with a3; injection a3 with a3; injection a3 with a3
  subst a1 a2 a3
  refine ⟨fun i t ht => ?_, fun i k hk => ?_, fun i e he => ?_⟩
  · obtain ⟨hi, rfl⟩ := List.getElem?_eq_some_iff.1 ht; exact h4 i hi
  · obtain ⟨hi, rfl⟩ := List.getElem?_eq_some_iff.1 hk; exact h5 i hi
  · obtain ⟨hi, rfl⟩ := List.getElem?_eq_some_iff.1 he; exact h6 i hi

def WalkOk (k : Nat) : Prop := ∀ (w : World) (B R : Nat) (lb lc kb kc eb ec : Nat) (cl : Int) (sv : Value) (st : Drl.PSt) (L : List Drl.Str) (K : List Nat) (E : List Int) (fs : Drl.RSt) (a b : Nat) (l : List Nat) (v : Drl.Nums) (r : Except Drl.Err Drl.PSt),
  Sh w R (.slice (some ⟨lb, 0, none⟩) L.length lc) (.slice (some ⟨kb, 0, none⟩) L.length kc) (.slice (some ⟨eb, 0, none⟩) L.length ec) L K E → WAt w B R (.slice (some ⟨lb, 0, none⟩) L.length lc) (.slice (some ⟨kb, 0, none⟩) L.length kc) (.slice (some ⟨eb, 0, none⟩) L.length ec) cl sv st → Fin L K E fs → Drl.Lst K E fs.ar a b l → b ≤ L.length → Drl.LetOnly v → (∀ c, v c ≤ 999999) → Drl.run fs.ar k (.seq l v) st = some r →
    Calls Tryz.prog 25 #[.pointer (some ⟨R, 0, none⟩), .int .i64 a, .int .i64 b, .agg (letCells v)] w fun e w' => RPost w B R (.slice (some ⟨lb, 0, none⟩) L.length lc) (.slice (some ⟨kb, 0, none⟩) L.length kc) (.slice (some ⟨eb, 0, none⟩) L.length ec) cl r w' ∧ e = .returned (.tuple #[])

/-- between two lines -/
structure WRel (w0 : World) (B R V lb lc kb kc eb ec : Nat) (cl : Int) (L : List Drl.Str) (K : List Nat) (E : List Int) (fs : Drl.RSt) (b : Nat) (v : Drl.Nums) (r : Except Drl.Err Drl.PSt) (k : Nat) (i : Nat) (wr : World) : Prop where
  let_ : LetAt wr V v
  left : Left B R w0 wr
  sh : Sh wr R (.slice (some ⟨lb, 0, none⟩) L.length lc) (.slice (some ⟨kb, 0, none⟩) L.length kc) (.slice (some ⟨eb, 0, none⟩) L.length ec) L K E
  le : i ≤ L.length + 1
  blk : ∃ c, wr.heap[R]? = some (.cells c 69 (0, 0))
  st : (∃ k' l' st' sv', k' ≤ k ∧ Drl.Lst K E fs.ar i b l' ∧ Drl.run fs.ar k' (.seq l' v) st' = some r ∧ WAt wr B R (.slice (some ⟨lb, 0, none⟩) L.length lc) (.slice (some ⟨kb, 0, none⟩) L.length kc) (.slice (some ⟨eb, 0, none⟩) L.length ec) cl sv' st') ∨ (∃ x, r = .error x ∧ ErrSh wr R (.slice (some ⟨lb, 0, none⟩) L.length lc) (.slice (some ⟨kb, 0, none⟩) L.length kc) (.slice (some ⟨eb, 0, none⟩) L.length ec) x)

theorem ErrSh.cell7 {w : World} {R : Nat} {lv kv ev : Value} {x : Drl.Err} (h : ErrSh w R lv kv ev x) : w.cell? ⟨R, 7, none⟩ = some (.int .i64 (x.2 : Nat)) := by
  obtain ⟨_, cl, sv, tn, sd, h⟩ := h
  exact cell_of h rfl
theorem WAt.cell7 {w : World} {B R : Nat} {lv kv ev : Value} {cl : Int} {sv : Value} {st : Drl.PSt} (h : WAt w B R lv kv ev cl sv st) : w.cell? ⟨R, 7, none⟩ = some (.int .i64 0) := cell_of h.at_ rfl

theorem ErrSh.blk {w : World} {R : Nat} {lv kv ev : Value} {x : Drl.Err} (h : ErrSh w R lv kv ev x) : ∃ c, w.heap[R]? = some (.cells c 69 (0, 0)) := by
  obtain ⟨_, cl, sv, tn, sd, h⟩ := h
  exact ⟨_, h⟩
theorem Sh.leftErr {w w' : World} {B R : Nat} {lv kv ev : Value} {L : List Drl.Str} {K : List Nat} {E : List Int} (h : Sh w R lv kv ev L K E) (hL : Left B R w w') {c : Array Value} (hR : w.heap[R]? = some (.cells c 69 (0, 0))) {x : Drl.Err} (h' : ErrSh w' R lv kv ev x) : Sh w' R lv kv ev L K E := by
  obtain ⟨_, cl, sv, tn, sd, h'⟩ := h'
  exact h.left hL hR h'
/-- behind a line: all is well -/
theorem WRel.toOk {w0 w1 w2 : World} {B R V lb lc kb kc eb ec : Nat} {cl : Int} {L : List Drl.Str} {K : List Nat} {E : List Int} {fs : Drl.RSt} {b : Nat} {v : Drl.Nums} {r : Except Drl.Err Drl.PSt} {k i : Nat} {sv1 sv2 : Value} {st1 st2 : Drl.PSt}
    (lt : LetAt w1 V v) (lf : Left B R w0 w1) (sh : Sh w1 R (.slice (some ⟨lb, 0, none⟩) L.length lc) (.slice (some ⟨kb, 0, none⟩) L.length kc) (.slice (some ⟨eb, 0, none⟩) L.length ec) L K E) (wa : WAt w1 B R (.slice (some ⟨lb, 0, none⟩) L.length lc) (.slice (some ⟨kb, 0, none⟩) L.length kc) (.slice (some ⟨eb, 0, none⟩) L.length ec) cl sv1 st1)
    (hL : Left B R w1 w2) (wa2 : WAt w2 B R (.slice (some ⟨lb, 0, none⟩) L.length lc) (.slice (some ⟨kb, 0, none⟩) L.length kc) (.slice (some ⟨eb, 0, none⟩) L.length ec) cl sv2 st2) (le : i ≤ L.length + 1) {k2 : Nat} {l2 : List Nat} (hk : k2 ≤ k) (hl : Drl.Lst K E fs.ar i b l2) (hr : Drl.run fs.ar k2 (.seq l2 v) st2 = some r) :
    WRel w0 B R V lb lc kb kc eb ec cl L K E fs b v r k i w2 :=
  ⟨lt.left hL wa.at_, lf.trans hL, sh.left hL wa.at_ wa2.at_, le, ⟨_, wa2.at_⟩, .inl ⟨k2, l2, st2, sv2, hk, hl, hr, wa2⟩⟩
/-- .. or not -/
theorem WRel.toErr {w0 w1 w2 : World} {B R V lb lc kb kc eb ec : Nat} {cl : Int} {L : List Drl.Str} {K : List Nat} {E : List Int} {fs : Drl.RSt} {b : Nat} {v : Drl.Nums} {r : Except Drl.Err Drl.PSt} {k i : Nat} {sv1 : Value} {st1 : Drl.PSt} {x : Drl.Err}
    (lt : LetAt w1 V v) (lf : Left B R w0 w1) (sh : Sh w1 R (.slice (some ⟨lb, 0, none⟩) L.length lc) (.slice (some ⟨kb, 0, none⟩) L.length kc) (.slice (some ⟨eb, 0, none⟩) L.length ec) L K E) (wa : WAt w1 B R (.slice (some ⟨lb, 0, none⟩) L.length lc) (.slice (some ⟨kb, 0, none⟩) L.length kc) (.slice (some ⟨eb, 0, none⟩) L.length ec) cl sv1 st1)
    (hL : Left B R w1 w2) (he : ErrSh w2 R (.slice (some ⟨lb, 0, none⟩) L.length lc) (.slice (some ⟨kb, 0, none⟩) L.length kc) (.slice (some ⟨eb, 0, none⟩) L.length ec) x) (le : i ≤ L.length + 1) (hr : r = .error x) :
    WRel w0 B R V lb lc kb kc eb ec cl L K E fs b v r k i w2 :=
  ⟨lt.left hL wa.at_, lf.trans hL, sh.leftErr hL wa.at_ he, le, he.blk, .inr ⟨x, hr, he⟩⟩

theorem eqn_no {k n : Nat} (h : k ≠ n) : ((k : Int) == (n : Int)) = false := beq_eq_false_iff_ne.2 (by omega)


/-- the frame between two lines -/
def WFr (R V : Nat) (a0 : Int) (b : Nat) (v : Drl.Nums) (v8 : Value) (a : Act) : Prop := ∃ u : Nat → Value, a = { tmps := #[.pointer (some ⟨R, 0, none⟩), .int .i64 (a0 : Int), .int .i64 (b : Nat), .agg (letCells v), undef, undef, undef, .pointer (some ⟨V, 0, none⟩), v8, u 9, u 10, u 11, u 12, u 13, u 14, u 15, u 16, u 17, u 18, u 19, u 20, u 21, u 22, u 23, u 24, u 25, u 26, u 27, u 28, u 29, u 30, u 31, u 32, u 33, u 34, u 35, u 36, u 37, u 38, u 39, u 40, u 41, u 42, u 43, u 44, u 45, u 46, u 47, u 48, u 49, u 50, u 51, u 52, u 53, u 54, u 55, u 56, u 57, u 58, u 59, u 60, u 61, u 62, u 63, u 64, u 65, u 66, u 67, u 68, u 69, u 70, u 71, u 72, u 73, u 74, u 75, u 76, u 77, u 78, u 79, u 80, u 81, u 82, u 83, u 84, u 85, u 86, u 87, u 88, u 89, u 90, u 91, u 92, u 93, u 94, u 95, u 96, u 97, u 98, u 99, u 100, u 101, u 102, u 103, u 104, u 105, u 106, u 107, u 108, u 109, u 110, u 111, u 112, u 113, u 114, u 115, u 116, u 117, u 118, u 119, u 120, u 121, u 122, u 123, u 124, u 125, u 126, u 127, u 128, u 129, u 130, u 131, u 132, u 133, u 134, u 135, u 136, u 137, u 138, u 139, u 140, u 141, u 142, u 143, u 144, u 145, u 146, u 147, u 148, u 149, u 150, u 151, u 152, u 153, u 154, u 155, u 156, u 157, u 158, u 159, u 160, u 161, u 162, u 163, u 164, u 165, u 166, u 167, u 168, u 169, u 170, u 171, u 172, u 173, u 174, u 175, u 176, u 177, u 178, u 179, u 180, u 181, u 182, u 183, u 184, u 185, u 186, u 187, u 188, u 189, u 190, u 191, u 192, u 193, u 194, u 195, u 196, u 197, u 198, u 199, u 200, u 201, u 202, u 203, u 204, u 205, u 206, u 207, u 208, u 209, u 210, u 211, u 212, u 213, u 214, u 215, u 216, u 217, u 218, u 219, u 220, u 221, u 222, u 223, u 224, u 225, u 226], defers := [] }
theorem WFr.intro {R V : Nat} {a0 : Int} {b : Nat} {v : Drl.Nums} {v8 x9 x10 x11 x12 x13 x14 x15 x16 x17 x18 x19 x20 x21 x22 x23 x24 x25 x26 x27 x28 x29 x30 x31 x32 x33 x34 x35 x36 x37 x38 x39 x40 x41 x42 x43 x44 x45 x46 x47 x48 x49 x50 x51 x52 x53 x54 x55 x56 x57 x58 x59 x60 x61 x62 x63 x64 x65 x66 x67 x68 x69 x70 x71 x72 x73 x74 x75 x76 x77 x78 x79 x80 x81 x82 x83 x84 x85 x86 x87 x88 x89 x90 x91 x92 x93 x94 x95 x96 x97 x98 x99 x100 x101 x102 x103 x104 x105 x106 x107 x108 x109 x110 x111 x112 x113 x114 x115 x116 x117 x118 x119 x120 x121 x122 x123 x124 x125 x126 x127 x128 x129 x130 x131 x132 x133 x134 x135 x136 x137 x138 x139 x140 x141 x142 x143 x144 x145 x146 x147 x148 x149 x150 x151 x152 x153 x154 x155 x156 x157 x158 x159 x160 x161 x162 x163 x164 x165 x166 x167 x168 x169 x170 x171 x172 x173 x174 x175 x176 x177 x178 x179 x180 x181 x182 x183 x184 x185 x186 x187 x188 x189 x190 x191 x192 x193 x194 x195 x196 x197 x198 x199 x200 x201 x202 x203 x204 x205 x206 x207 x208 x209 x210 x211 x212 x213 x214 x215 x216 x217 x218 x219 x220 x221 x222 x223 x224 x225 x226 : Value} : WFr R V a0 b v v8 { tmps := #[.pointer (some ⟨R, 0, none⟩), .int .i64 (a0 : Int), .int .i64 (b : Nat), .agg (letCells v), undef, undef, undef, .pointer (some ⟨V, 0, none⟩), v8, x9, x10, x11, x12, x13, x14, x15, x16, x17, x18, x19, x20, x21, x22, x23, x24, x25, x26, x27, x28, x29, x30, x31, x32, x33, x34, x35, x36, x37, x38, x39, x40, x41, x42, x43, x44, x45, x46, x47, x48, x49, x50, x51, x52, x53, x54, x55, x56, x57, x58, x59, x60, x61, x62, x63, x64, x65, x66, x67, x68, x69, x70, x71, x72, x73, x74, x75, x76, x77, x78, x79, x80, x81, x82, x83, x84, x85, x86, x87, x88, x89, x90, x91, x92, x93, x94, x95, x96, x97, x98, x99, x100, x101, x102, x103, x104, x105, x106, x107, x108, x109, x110, x111, x112, x113, x114, x115, x116, x117, x118, x119, x120, x121, x122, x123, x124, x125, x126, x127, x128, x129, x130, x131, x132, x133, x134, x135, x136, x137, x138, x139, x140, x141, x142, x143, x144, x145, x146, x147, x148, x149, x150, x151, x152, x153, x154, x155, x156, x157, x158, x159, x160, x161, x162, x163, x164, x165, x166, x167, x168, x169, x170, x171, x172, x173, x174, x175, x176, x177, x178, x179, x180, x181, x182, x183, x184, x185, x186, x187, x188, x189, x190, x191, x192, x193, x194, x195, x196, x197, x198, x199, x200, x201, x202, x203, x204, x205, x206, x207, x208, x209, x210, x211, x212, x213, x214, x215, x216, x217, x218, x219, x220, x221, x222, x223, x224, x225, x226], defers := [] } := ⟨fun i => (#[x9, x10, x11, x12, x13, x14, x15, x16, x17, x18, x19, x20, x21, x22, x23, x24, x25, x26, x27, x28, x29, x30, x31, x32, x33, x34, x35, x36, x37, x38, x39, x40, x41, x42, x43, x44, x45, x46, x47, x48, x49, x50, x51, x52, x53, x54, x55, x56, x57, x58, x59, x60, x61, x62, x63, x64, x65, x66, x67, x68, x69, x70, x71, x72, x73, x74, x75, x76, x77, x78, x79, x80, x81, x82, x83, x84, x85, x86, x87, x88, x89, x90, x91, x92, x93, x94, x95, x96, x97, x98, x99, x100, x101, x102, x103, x104, x105, x106, x107, x108, x109, x110, x111, x112, x113, x114, x115, x116, x117, x118, x119, x120, x121, x122, x123, x124, x125, x126, x127, x128, x129, x130, x131, x132, x133, x134, x135, x136, x137, x138, x139, x140, x141, x142, x143, x144, x145, x146, x147, x148, x149, x150, x151, x152, x153, x154, x155, x156, x157, x158, x159, x160, x161, x162, x163, x164, x165, x166, x167, x168, x169, x170, x171, x172, x173, x174, x175, x176, x177, x178, x179, x180, x181, x182, x183, x184, x185, x186, x187, x188, x189, x190, x191, x192, x193, x194, x195, x196, x197, x198, x199, x200, x201, x202, x203, x204, x205, x206, x207, x208, x209, x210, x211, x212, x213, x214, x215, x216, x217, x218, x219, x220, x221, x222, x223, x224, x225, x226]).getD (i - 9) undef, rfl⟩

noncomputable def loopOf : Code → Option Code
  | .loop c => some c
  | .seq a b => (loopOf a).orElse fun _ => loopOf b
  | .block _ c => loopOf c
  | .scope c => loopOf c
  | _ => none
noncomputable def walkBody : Option Code := (Tryz.f25.body).bind loopOf

/-- what does not change -/
structure WCtx (w0 : World) (B R V lb lc kb kc eb ec : Nat) (cl : Int) (L : List Drl.Str) (K : List Nat) (E : List Int) (fs : Drl.RSt) (b : Nat) (v : Drl.Nums) (k : Nat) : Prop where
  fin : Fin L K E fs
  lo : Drl.LetOnly v
  hv : ∀ c, v c ≤ 999999
  hb : b ≤ L.length
  ih : ∀ k', k' < k → WalkOk k'
  hB : B ≤ w0.heap.size
  hRV : V ≠ R

def WI (w0 : World) (B R V lb lc kb kc eb ec : Nat) (cl : Int) (L : List Drl.Str) (K : List Nat) (E : List Int) (fs : Drl.RSt) (a0 : Int) (b : Nat) (v : Drl.Nums) (r : Except Drl.Err Drl.PSt) (k : Nat) (a : Act) (wr : World) : Prop :=
  ∃ i : Nat, WFr R V a0 b v (.int .i64 (i : Nat)) a ∧ WRel w0 B R V lb lc kb kc eb ec cl L K E fs b v r k i wr
def Wmu (b : Nat) (a : Act) (_ : World) : Nat := b - (intOf (a.tmps.getD 8 undef)).toNat
theorem WI.mk_ {w0 : World} {B R V lb lc kb kc eb ec : Nat} {cl : Int} {L : List Drl.Str} {K : List Nat} {E : List Int} {fs : Drl.RSt} {a0 : Int} {b : Nat} {v : Drl.Nums} {r : Except Drl.Err Drl.PSt} {k : Nat} {a : Act} {wr : World} {i m : Nat} {v8 : Value}
    (h8 : v8 = .int .i64 (i : Nat)) (hf : WFr R V a0 b v v8 a) (hr : WRel w0 B R V lb lc kb kc eb ec cl L K E fs b v r k i wr) (hm : b - i < m) : WI w0 B R V lb lc kb kc eb ec cl L K E fs a0 b v r k a wr ∧ Wmu b a wr < m := by
  subst h8
  refine ⟨⟨i, hf, hr⟩, ?_⟩
  obtain ⟨u, rfl⟩ := hf
  exact hm

/-- between two times of a block -/
structure Inner (w1 : World) (B R V lb lc kb kc eb ec : Nat) (cl : Int) (L : List Drl.Str) (K : List Nat) (E : List Int) (fs : Drl.RSt) (v : Drl.Nums) (q : Except Drl.Err Drl.PSt) (k3 n : Nat) (z c : Int) (okb : Bool) (w : World) : Prop where
  let_ : LetAt w V v
  left : Left B R w1 w
  sh : Sh w R (.slice (some ⟨lb, 0, none⟩) L.length lc) (.slice (some ⟨kb, 0, none⟩) L.length kc) (.slice (some ⟨eb, 0, none⟩) L.length ec) L K E
  st : (okb = true ∧ ∃ k' st' sv', k' ≤ k3 ∧ Drl.run fs.ar k' (.loop n (Drl.nd fs.ar n).body v z c) st' = some q ∧ WAt w B R (.slice (some ⟨lb, 0, none⟩) L.length lc) (.slice (some ⟨kb, 0, none⟩) L.length kc) (.slice (some ⟨eb, 0, none⟩) L.length ec) cl sv' st') ∨ (okb = false ∧ ∃ x, q = .error x ∧ ErrSh w R (.slice (some ⟨lb, 0, none⟩) L.length lc) (.slice (some ⟨kb, 0, none⟩) L.length kc) (.slice (some ⟨eb, 0, none⟩) L.length ec) x)
theorem _root_.Drl.filled_len (v : Drl.Nums) (hv : ∀ c, v c ≤ 999999) : ∀ (n : Nat) (t : Drl.Str), t.length ≤ n → (Drl.filled v t).length ≤ 6 * t.length := by
  intro n
  induction n with
  | zero =>
    intro t ht
    have : t = [] := List.eq_nil_of_length_eq_zero (by omega)
    subst this; simp [Drl.filled_nil]
  | succ n ih =>
    intro t ht
    match t, ht with
    | [], _ => simp [Drl.filled_nil]
    | [d], _ => rw [Drl.filled_last, Drl.filled_nil]; simp
    | d :: c :: r, ht =>
      have h1 := ih (c :: r) (by simp at ht ⊢; omega)
      have h2 := ih r (by simp at ht ⊢; omega)
      rw [Drl.filled]
      split
      · have := Drl.decDigits_len 5 (v c.toNat).toNat (by have := hv c.toNat; omega)
        simp at h2 ⊢; omega
      · simp at h1 ⊢; omega
end Go.Proofs.YtfbmlnkgjgnnhaaGreatDoor
