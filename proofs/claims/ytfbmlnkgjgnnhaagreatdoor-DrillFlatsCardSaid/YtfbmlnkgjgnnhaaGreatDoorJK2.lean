import Derived.Test.YtfbmlnkgjgnnhaaGreatDoorJA12
import Derived.LaidEqlPtr
import Derived.Test.YtfbmlnkgjgnnhaaGreatDoorJK0
import Derived.StillTailTactics
set_option linter.unusedSimpArgs false
set_option linter.unusedVariables false

section
namespace Go.Proofs.YtfbmlnkgjgnnhaaGreatDoor
open Go.RowKit

theorem below_drewN {B : Nat} {a b : World} (h : Below B a b) (n : Nat) : Below B a (b.drewN n) := ⟨h.1, h.2, h.3, h.4, h.5⟩

theorem below_drew {B : Nat} {a b : World} (h : Below B a b) : Below B a b.drew := ⟨h.1, h.2, h.3, h.4, h.5⟩

theorem node_info : ∃ j, Tryz.prog.info? 62 = some j ∧ j.size ≠ 0 := by
  have h : (Tryz.prog.info? 62).map TypeInfo.size = some 6 := by kernel_rfl
  obtain ⟨j, h1, h2⟩ := Option.map_eq_some_iff.1 h
  exact ⟨j, h1, by omega⟩
theorem pNode_under : Tryz.prog.underlying 50 = some (.pointer 62) := by kernel_rfl

theorem eql_other (w : World) {a b : Addr} {ca cb : Array Value} {ta tb : TypeId} (hne : a ≠ b) (ha : w.heap[a.block]? = some (.cells ca ta (0, 0))) (hb : w.heap[b.block]? = some (.cells cb tb (0, 0))) :
    (binOp .eql 50 (.pointer (some a)) (.pointer (some b))).run Tryz.prog w = .ok (.bool false) w := by
  obtain ⟨j, h1, h2⟩ := node_info
  exact run_eql_ptr_other w pNode_under h1 h2 hne ha hb
theorem eql_same (w : World) (a : Addr) : (binOp .eql 50 (.pointer (some a)) (.pointer (some a))).run Tryz.prog w = .ok (.bool true) w := by
  obtain ⟨j, h1, h2⟩ := node_info
  exact run_eql_ptr_same w a pNode_under h1
theorem neq_other (w : World) {a b : Addr} {ca cb : Array Value} {ta tb : TypeId} (hne : a ≠ b) (ha : w.heap[a.block]? = some (.cells ca ta (0, 0))) (hb : w.heap[b.block]? = some (.cells cb tb (0, 0))) :
    (binOp .neq 50 (.pointer (some a)) (.pointer (some b))).run Tryz.prog w = .ok (.bool true) w := by
  obtain ⟨j, hte, hsz⟩ := node_info
  have h : ∀ d : Nat, (Op.equalIn (d + 1) 50 (.pointer (some a)) (.pointer (some b))).run Tryz.prog w = .ok false w := fun d => by
    simp [Op.equalIn, run_underlying pNode_under, sizeOf, typeInfo, hte, hsz, run_sameAddr_other w hne ha hb]
  simp only [binOp]
  simp [Op.equal, Op.maxDepth, h 9999]
theorem neq_same (w : World) (a : Addr) : (binOp .neq 50 (.pointer (some a)) (.pointer (some a))).run Tryz.prog w = .ok (.bool false) w := by
  obtain ⟨j, hte, hsz⟩ := node_info
  have h : ∀ d : Nat, (Op.equalIn (d + 1) 50 (.pointer (some a)) (.pointer (some a))).run Tryz.prog w = .ok true w := fun d => by
    simp [Op.equalIn, run_underlying pNode_under, sizeOf, typeInfo, hte, run_sameAddr_same]
  simp only [binOp]
  simp [Op.equal, Op.maxDepth, h 9999]
end Go.Proofs.YtfbmlnkgjgnnhaaGreatDoor
end

section
namespace Go.Proofs.YtfbmlnkgjgnnhaaGreatDoor
open Go.RowKit

/-- an error at a place -/
def ErrAt (w : World) (v : Value) (a c : Nat) : Prop := ∃ b, v = .iface 76 (.pointer (some ⟨b, 0, none⟩)) ∧ w.heap[b]? = some (.cells #[.int .i64 a, .iface 33 (.int .i64 c)] 79 (0, 0))

/-- what read leaves -/
def ReadPost (w : World) (r : Except Drl.Err Drl.RSt) (e : Ending) (w' : World) : Prop :=
  Below w.heap.size w w' ∧ match r with
    | .error x => ∃ v, e = .returned (.tuple #[.pointer none, v]) ∧ ErrAt w' v x.1 x.2
    | .ok st => ∃ Rb Mb ov ad wv bv, e = .returned (.tuple #[nptr ad 0, .nilIface]) ∧ RMem w' w.heap.size Rb Mb ov ad wv bv st ∧ Drl.Inv st

set_option maxRecDepth 100000 in
/-- the frame at a label -/
def Fr (v0 v4 v5 v6 v7 v8 : Value) (a : Act) : Prop := ∃ u : Nat → Value, a = { tmps := #[v0, undef, .pointer none, .nilIface, v4, v5, v6, v7, v8, u 9, u 10, u 11, u 12, u 13, u 14, u 15, u 16, u 17, u 18, u 19, u 20, u 21, u 22, u 23, u 24, u 25, u 26, u 27, u 28, u 29, u 30, u 31, u 32, u 33, u 34, u 35, u 36, u 37, u 38, u 39, u 40, u 41, u 42, u 43, u 44, u 45, u 46, u 47, u 48, u 49, u 50, u 51, u 52, u 53, u 54, u 55, u 56, u 57, u 58, u 59, u 60, u 61, u 62, u 63, u 64, u 65, u 66, u 67, u 68, u 69, u 70, u 71, u 72, u 73, u 74, u 75, u 76, u 77, u 78, u 79, u 80, u 81, u 82, u 83, u 84, u 85, u 86, u 87, u 88, u 89, u 90, u 91, u 92, u 93, u 94, u 95, u 96, u 97, u 98, u 99, u 100, u 101, u 102, u 103, u 104, u 105, u 106, u 107, u 108, u 109, u 110, u 111, u 112, u 113, u 114, u 115, u 116, u 117, u 118, u 119, u 120, u 121, u 122, u 123, u 124, u 125, u 126, u 127, u 128, u 129, u 130, u 131, u 132, u 133, u 134, u 135, u 136, u 137, u 138, u 139, u 140, u 141, u 142, u 143, u 144, u 145, u 146, u 147, u 148, u 149, u 150, u 151, u 152, u 153, u 154, u 155, u 156, u 157, u 158, u 159, u 160, u 161, u 162, u 163, u 164, u 165, u 166, u 167, u 168, u 169, u 170, u 171, u 172, u 173, u 174, u 175, u 176, u 177, u 178, u 179, u 180, u 181, u 182, u 183, u 184, u 185, u 186, u 187, u 188, u 189, u 190, u 191, u 192, u 193, u 194, u 195, u 196, u 197, u 198, u 199, u 200, u 201, u 202, u 203, u 204, u 205, u 206, u 207], defers := [] }

set_option maxRecDepth 100000 in
theorem Fr.intro {v0 v4 v5 v6 v7 v8 x9 x10 x11 x12 x13 x14 x15 x16 x17 x18 x19 x20 x21 x22 x23 x24 x25 x26 x27 x28 x29 x30 x31 x32 x33 x34 x35 x36 x37 x38 x39 x40 x41 x42 x43 x44 x45 x46 x47 x48 x49 x50 x51 x52 x53 x54 x55 x56 x57 x58 x59 x60 x61 x62 x63 x64 x65 x66 x67 x68 x69 x70 x71 x72 x73 x74 x75 x76 x77 x78 x79 x80 x81 x82 x83 x84 x85 x86 x87 x88 x89 x90 x91 x92 x93 x94 x95 x96 x97 x98 x99 x100 x101 x102 x103 x104 x105 x106 x107 x108 x109 x110 x111 x112 x113 x114 x115 x116 x117 x118 x119 x120 x121 x122 x123 x124 x125 x126 x127 x128 x129 x130 x131 x132 x133 x134 x135 x136 x137 x138 x139 x140 x141 x142 x143 x144 x145 x146 x147 x148 x149 x150 x151 x152 x153 x154 x155 x156 x157 x158 x159 x160 x161 x162 x163 x164 x165 x166 x167 x168 x169 x170 x171 x172 x173 x174 x175 x176 x177 x178 x179 x180 x181 x182 x183 x184 x185 x186 x187 x188 x189 x190 x191 x192 x193 x194 x195 x196 x197 x198 x199 x200 x201 x202 x203 x204 x205 x206 x207 : Value} : Fr v0 v4 v5 v6 v7 v8 { tmps := #[v0, undef, .pointer none, .nilIface, v4, v5, v6, v7, v8, x9, x10, x11, x12, x13, x14, x15, x16, x17, x18, x19, x20, x21, x22, x23, x24, x25, x26, x27, x28, x29, x30, x31, x32, x33, x34, x35, x36, x37, x38, x39, x40, x41, x42, x43, x44, x45, x46, x47, x48, x49, x50, x51, x52, x53, x54, x55, x56, x57, x58, x59, x60, x61, x62, x63, x64, x65, x66, x67, x68, x69, x70, x71, x72, x73, x74, x75, x76, x77, x78, x79, x80, x81, x82, x83, x84, x85, x86, x87, x88, x89, x90, x91, x92, x93, x94, x95, x96, x97, x98, x99, x100, x101, x102, x103, x104, x105, x106, x107, x108, x109, x110, x111, x112, x113, x114, x115, x116, x117, x118, x119, x120, x121, x122, x123, x124, x125, x126, x127, x128, x129, x130, x131, x132, x133, x134, x135, x136, x137, x138, x139, x140, x141, x142, x143, x144, x145, x146, x147, x148, x149, x150, x151, x152, x153, x154, x155, x156, x157, x158, x159, x160, x161, x162, x163, x164, x165, x166, x167, x168, x169, x170, x171, x172, x173, x174, x175, x176, x177, x178, x179, x180, x181, x182, x183, x184, x185, x186, x187, x188, x189, x190, x191, x192, x193, x194, x195, x196, x197, x198, x199, x200, x201, x202, x203, x204, x205, x206, x207], defers := [] } := ⟨fun i => (#[x9, x10, x11, x12, x13, x14, x15, x16, x17, x18, x19, x20, x21, x22, x23, x24, x25, x26, x27, x28, x29, x30, x31, x32, x33, x34, x35, x36, x37, x38, x39, x40, x41, x42, x43, x44, x45, x46, x47, x48, x49, x50, x51, x52, x53, x54, x55, x56, x57, x58, x59, x60, x61, x62, x63, x64, x65, x66, x67, x68, x69, x70, x71, x72, x73, x74, x75, x76, x77, x78, x79, x80, x81, x82, x83, x84, x85, x86, x87, x88, x89, x90, x91, x92, x93, x94, x95, x96, x97, x98, x99, x100, x101, x102, x103, x104, x105, x106, x107, x108, x109, x110, x111, x112, x113, x114, x115, x116, x117, x118, x119, x120, x121, x122, x123, x124, x125, x126, x127, x128, x129, x130, x131, x132, x133, x134, x135, x136, x137, x138, x139, x140, x141, x142, x143, x144, x145, x146, x147, x148, x149, x150, x151, x152, x153, x154, x155, x156, x157, x158, x159, x160, x161, x162, x163, x164, x165, x166, x167, x168, x169, x170, x171, x172, x173, x174, x175, x176, x177, x178, x179, x180, x181, x182, x183, x184, x185, x186, x187, x188, x189, x190, x191, x192, x193, x194, x195, x196, x197, x198, x199, x200, x201, x202, x203, x204, x205, x206, x207]).getD (i - 9) undef, rfl⟩

/-- the lines that are read -/
structure ReadIn (w : World) (ao : Option Addr) (ls : List Drl.Ln) : Prop where
  len : ls.length ≤ 65536
  at_ : ls ≠ [] → ∃ g o, ao = some ⟨g, o, none⟩ ∧ LinesIn w g o ls
  small : ∀ x ∈ ls, 1 ≤ x.ws.length ∧ (∀ t ∈ x.ws, t.length ≤ 65536) ∧ x.at_ ≤ 65536

/-- what holds at a label -/
structure At (w : World) (ls : List Drl.Ln) (k Rb Mb : Nat) (ov : Value) (ad : Nat → Nat) (wv bv : Nat → Value) (st : Drl.RSt) (wr : World) : Prop where
  hk : k ≤ ls.length
  mem : RMem wr w.heap.size Rb Mb ov ad wv bv st
  inv : Drl.Inv st
  keep : Below w.heap.size w wr
  alen : st.ar.length ≤ k + 1
  olen : st.opn.length ≤ k + 1
  blen : ∀ i, i < st.ar.length → (Drl.nd st.ar i).body.length ≤ k

def JNext (w : World) (ao : Option Addr) (cap : Nat) (ls : List Drl.Ln) (a : Act) (wr : World) : Prop :=
  ∃ k Rb Mb ov ad wv bv st v7 v8, Fr (.slice ao ls.length cap) (nptr ad 0) (.pointer (some ⟨Rb, 0, none⟩)) (.int .i64 (k : Nat)) v7 v8 a ∧ At w ls k Rb Mb ov ad wv bv st wr ∧ Drl.readFrom st (ls.drop k) = Drl.readFrom Drl.st0 ls
def newNd (x : Drl.Ln) : Drl.Nd := { at_ := x.at_, text := x.text, ws := x.ws }
/-- the new node, its line's words -/
structure NewAt (w : World) (B nb b : Nat) (ad : Nat → Nat) (n : Nat) (x : Drl.Ln) : Prop where
  cells : w.heap[nb]? = some (.cells (nodeCells ad (.slice (some ⟨b, 0, none⟩) x.ws.length x.ws.length) (.slice none 0 0) (newNd x)) 62 (0, 0))
  words : WordsIn w b x.ws
  base : B ≤ nb
  ne : ∀ i, i < n → ad i ≠ nb
theorem NewAt.next {w w' : World} {B nb b : Nat} {ad : Nat → Nat} {n : Nat} {x : Drl.Ln} (h : NewAt w B nb b ad n x) (hb : Below w.heap.size w w') : NewAt w' B nb b ad n x :=
  ⟨(hb.block nb (lt_of h.cells)).trans h.cells, (hb.block b (lt_of h.words)).trans h.words, h.base, h.ne⟩
/-- at 'end': the line stands in the new node nb -/
def JEnd (w : World) (ao : Option Addr) (cap : Nat) (ls : List Drl.Ln) (a : Act) (wr : World) : Prop :=
  ∃ k Rb Mb ov ad wv bv st nb b x, Fr (.slice ao ls.length cap) (nptr ad 0) (.pointer (some ⟨Rb, 0, none⟩)) (.int .i64 ((k + 1 : Nat) : Int)) (.pointer (some ⟨nb, 0, none⟩)) (nptr ad (Drl.top st)) a ∧ At w ls k Rb Mb ov ad wv bv st wr ∧ Drl.readFrom st (ls.drop k) = Drl.readFrom Drl.st0 ls ∧
    ls[k]? = some x ∧ x.text = Drl.wEnd ∧ NewAt wr w.heap.size nb b ad st.ar.length x
def JDone (w : World) (ao : Option Addr) (cap : Nat) (ls : List Drl.Ln) (a : Act) (wr : World) : Prop :=
  ∃ Rb Mb ov ad wv bv st v6 v7 v8, Fr (.slice ao ls.length cap) (nptr ad 0) (.pointer (some ⟨Rb, 0, none⟩)) v6 v7 v8 a ∧ At w ls ls.length Rb Mb ov ad wv bv st wr ∧ Drl.readFrom st [] = Drl.readFrom Drl.st0 ls

theorem JNext.mk_ {w : World} {ao : Option Addr} {cap : Nat} {ls : List Drl.Ln} {a : Act} {wr : World} {k Rb Mb : Nat} {ov : Value} {ad : Nat → Nat} {wv bv : Nat → Value} {st : Drl.RSt} {v6 v7 v8 p : Value} (h0 : nptr ad 0 = p) (h6 : v6 = .int .i64 (k : Nat)) (hf : Fr (.slice ao ls.length cap) p (.pointer (some ⟨Rb, 0, none⟩)) v6 v7 v8 a)
    (hat : At w ls k Rb Mb ov ad wv bv st wr) (hr : Drl.readFrom st (ls.drop k) = Drl.readFrom Drl.st0 ls) : JNext w ao cap ls a wr := by
  subst h0 h6
  exact ⟨k, Rb, Mb, ov, ad, wv, bv, st, v7, v8, hf, hat, hr⟩

def JAll (w : World) (ao : Option Addr) (cap : Nat) (ls : List Drl.Ln) : Nat → Act → World → Prop
  | 0, a, wr => JDone w ao cap ls a wr
  | 1, a, wr => JNext w ao cap ls a wr
  | 2, a, wr => JEnd w ao cap ls a wr
  | _, _, _ => False

def mu (ls : List Drl.Ln) : Nat → Act → World → Nat
  | 0, _, _ => 0
  | 1, a, _ => 2 * (ls.length + 1 - (intOf (a.tmps.getD 6 undef)).toNat)
  | 2, a, _ => 2 * (ls.length + 1 - (intOf (a.tmps.getD 6 undef)).toNat) + 1
  | _, _, _ => 0


theorem step_next {st st' : Drl.RSt} {ls : List Drl.Ln} {k : Nat} {x : Drl.Ln} {R : Except Drl.Err Drl.RSt} (hx : ls[k]? = some x) (hs : Drl.readStep st x = .ok st') (h : Drl.readFrom st (ls.drop k) = R) : Drl.readFrom st' (ls.drop (k + 1)) = R := by
  obtain ⟨hk, he⟩ := List.getElem?_eq_some_iff.1 hx
  rw [List.drop_eq_getElem_cons hk, he] at h
  simpa only [Drl.readFrom, hs] using h
theorem step_stop {st : Drl.RSt} {ls : List Drl.Ln} {k : Nat} {x : Drl.Ln} {e : Drl.Err} {R : Except Drl.Err Drl.RSt} (hx : ls[k]? = some x) (hs : Drl.readStep st x = .error e) (h : Drl.readFrom st (ls.drop k) = R) : R = .error e := by
  obtain ⟨hk, he⟩ := List.getElem?_eq_some_iff.1 hx
  rw [List.drop_eq_getElem_cons hk, he] at h
  simpa only [Drl.readFrom, hs] using h.symm
/-- the new node joins, in the mind alone -/
theorem At.push {w wr : World} {ls : List Drl.Ln} {k Rb Mb : Nat} {ov : Value} {ad : Nat → Nat} {wv bv : Nat → Value} {st : Drl.RSt} (h : At w ls k Rb Mb ov ad wv bv st wr) {x : Drl.Ln} (hx : ls[k]? = some x) (hw : 1 ≤ x.ws.length ∧ ∀ t ∈ x.ws, t.length ≤ 65536) {nb b : Nat} (hn : NewAt wr w.heap.size nb b ad st.ar.length x) :
    At w ls (k + 1) Rb Mb ov (setF ad st.ar.length nb) (setF wv st.ar.length (.slice (some ⟨b, 0, none⟩) x.ws.length x.ws.length)) (setF bv st.ar.length (.slice none 0 0)) { st with ar := st.ar ++ [newNd x] } wr := by
  obtain ⟨hk, he⟩ := List.getElem?_eq_some_iff.1 hx
  refine ⟨hk, h.mem.push h.inv (newNd x) nb _ hn.cells hn.base hn.ne (.inr ⟨b, rfl, hn.words⟩) rfl (fun d hd => by cases hd), h.inv.push (newNd x) hw.1 hw.2 rfl (fun d hd => by cases hd), h.keep, by have := h.alen; simp; omega, by have := h.olen; simp; omega, ?_⟩
  intro i hi
  by_cases e : i = st.ar.length
  · subst e; rw [Drl.nd_last]; exact Nat.zero_le _
  · have hi' : i < st.ar.length := by simp at hi; omega
    rw [Drl.nd_append hi']; exact Nat.le_succ_of_le (h.blen i hi')
theorem At.next {w wr w' : World} {ls : List Drl.Ln} {k Rb Mb : Nat} {ov : Value} {ad : Nat → Nat} {wv bv : Nat → Value} {st : Drl.RSt} (h : At w ls k Rb Mb ov ad wv bv st wr) (hb : Below wr.heap.size wr w') : At w ls k Rb Mb ov ad wv bv st w' :=
  ⟨h.hk, h.mem.next hb, h.inv, h.keep.trans (hb.mono h.keep.size), h.alen, h.olen, h.blen⟩
theorem nptr_set0 {ad : Nat → Nat} {n b : Nat} (h : 0 < n) : nptr (setF ad n b) 0 = .pointer (some ⟨ad 0, 0, none⟩) := by
  simp only [nptr, setF_ne ad b (show 0 ≠ n by omega)]
theorem nptr_set {ad : Nat → Nat} {i n b : Nat} (h : i < n) : nptr (setF ad n b) i = .pointer (some ⟨ad i, 0, none⟩) := by
  simp only [nptr, setF_ne ad b (show i ≠ n by omega)]

noncomputable def scopeOf : Code → Option Code
  | .scope c => some c
  | .seq a b => (scopeOf a).orElse fun _ => scopeOf b
  | _ => none
noncomputable def readScope : Code := ((Tryz.f21.body).bind scopeOf).getD .skip

/-- what a pass owes -/
def PassPost (w : World) (ao : Option Addr) (cap : Nat) (ls : List Drl.Ln) (m : Nat) : Exit → Act → World → Prop :=
  Exit.jumps (fun l' a' w' => JAll w ao cap ls l' a' w' ∧ mu ls l' a' w' < m) (bodyPost Tryz.prog Tryz.f21 (ReadPost w (Drl.readFrom Drl.st0 ls)))
end Go.Proofs.YtfbmlnkgjgnnhaaGreatDoor
end
