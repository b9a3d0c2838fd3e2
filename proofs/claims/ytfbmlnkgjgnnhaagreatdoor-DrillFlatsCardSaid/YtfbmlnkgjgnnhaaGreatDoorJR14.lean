import Derived.Test.YtfbmlnkgjgnnhaaGreatDoorJR13
import Derived.Deep.AppendLies
set_option linter.unusedSimpArgs false
set_option linter.unusedVariables false
namespace Go.Proofs.YtfbmlnkgjgnnhaaGreatDoor
open Go.RowKit
set_option linter.unusedVariables false

/-! ### the sheet while it is read -/
theorem ownsRow_keep1 {S : Nat → Prop} {es : TypeId → Prop} {w w' : World} {base : Nat} {e : TypeId} {size : Nat} {v : Value} {n : Nat} {xs : List Value} (h : w.ownsRow base e size v n xs) (hk : Keep S es w w') (hS : ∀ g, v.ownBlock = some g → ¬ S g) (he : ¬ es e) : w'.ownsRow base e size v n xs := by
  obtain ⟨h1, h2⟩ := h
  refine ⟨h1, ?_⟩
  rcases h2 with h2 | ⟨g, cap, cur, hv, hg, hh, r⟩
  · exact Or.inl h2
  · exact Or.inr ⟨g, cap, cur, hv, hg, hk.cells hh (hS g (by rw [hv]; rfl)) he, r⟩
theorem keep_grown {w w1 : World} {vb : Option Nat} {o : Obj} (hg : (w.alloc o).grownBy w1 vb) : Keep (fun k => vb = some k) (fun _ => False) w w1 :=
  ((Keep.refl (fun k => vb = some k) (fun _ => False) w).alloc o).grown hg (fun _ h => .inl h)

structure RdAt (w : World) (B R : Nat) (lv kv ev : Value) (cl er at' : Int) (L : List Drl.Str) (K : List Nat) (E : List Int) : Prop where
  blk : ShBlk w R lv kv ev cl (.slice none 0 0) 0 false er at'
  rl : w.ownsRow B 9 1 lv L.length (L.map strV)
  rk : w.ownsRow B 3 1 kv K.length (K.map intV)
  re : w.ownsRow B 3 1 ev E.length (E.map (Value.int .i64))
  ne : ∀ g, kv.ownBlock = some g → ev.ownBlock ≠ some g
  base : B ≤ R

section
variable {w w1 : World} {B R : Nat} {lv kv ev : Value} {cl er at' : Int} {L : List Drl.Str} {K : List Nat} {E : List Int}

theorem RdAt.lt (h : RdAt w B R lv kv ev cl er at' L K E) : R < w.heap.size := lt_of h.blk
theorem RdAt.next {w' : World} (h : RdAt w B R lv kv ev cl er at' L K E) (hb : Below w.heap.size w w') : RdAt w' B R lv kv ev cl er at' L K E := by
  have hk : Keep (fun _ => False) (fun _ => False) w w' := .of_next hb
  exact ⟨hk.cells h.blk id id, ownsRow_keep1 h.rl hk (fun _ _ => id) id, ownsRow_keep1 h.rk hk (fun _ _ => id) id, ownsRow_keep1 h.re hk (fun _ _ => id) id, h.ne, h.base⟩
theorem row_ne {T : TypeId} (hT : T ≠ 69) {c : Array Value} (hR : w.heap[R]? = some (.cells c 69 (0, 0))) {v : Value} {n : Nat} {xs : List Value} (h : w.ownsRow B T 1 v n xs) : ∀ g, v.ownBlock = some g → g ≠ R := by
  intro g hg e
  obtain ⟨c', fz, h1, _⟩ := ownsRow_row h g hg
  rw [e] at h1
  exact ne_of_type h1 hR hT rfl
theorem row_other {T T' : TypeId} (hT : T ≠ T') {v v' : Value} {n n' : Nat} {xs xs' : List Value} (h : w.ownsRow B T 1 v n xs) (h' : w.ownsRow B T' 1 v' n' xs') : ∀ g, v.ownBlock = some g → v'.ownBlock ≠ some g := by
  intro g hg hg'
  obtain ⟨c, fz, h1, _⟩ := ownsRow_row h g hg
  obtain ⟨c', fz', h1', _⟩ := ownsRow_row h' g hg'
  exact ne_of_type h1 h1' hT rfl
theorem keep_setR (i : Nat) (v : Value) : Keep (fun k => k = R) (fun _ => False) w (w.setCell ⟨R, i, none⟩ v) := (Keep.refl (fun k => k = R) (fun _ => False) w).setCell ⟨R, i, none⟩ rfl _

/-- a line joins -/
theorem RdAt.pushL (h : RdAt w B R lv kv ev cl er at' L K E) (x : Drl.Str) {o : Obj} {g cap : Nat} (hown : w1.ownsRow B 9 1 (.slice (some ⟨g, 0, none⟩) (L.length + 1) cap) (L.length + 1) (L.map strV ++ [strV x])) (hgrow : (w.alloc o).grownBy w1 lv.ownBlock) :
    RdAt (w1.setCell ⟨R, 0, none⟩ (.slice (some ⟨g, 0, none⟩) (L.length + 1) cap)) B R (.slice (some ⟨g, 0, none⟩) (L.length + 1) cap) kv ev cl er at' (L ++ [x]) K E ∧ Below B w (w1.setCell ⟨R, 0, none⟩ (.slice (some ⟨g, 0, none⟩) (L.length + 1) cap)) ∧ w1.cell? ⟨R, 0, none⟩ = some lv ∧ w1.frozen? ⟨R, 0, none⟩ = false := by
  have hR := h.lt
  have hB := h.base
  have k1 := keep_grown hgrow
  have nR := row_ne (by decide) h.blk h.rl
  have r1 : ShBlk w1 R lv kv ev cl (.slice none 0 0) 0 false er at' := k1.cells h.blk (fun e => nR R e rfl) id
  have hk1 : w1.ownsRow B 3 1 kv K.length (K.map intV) := ownsRow_keep1 h.rk k1 (fun g hg => row_other (by decide) h.rk h.rl g hg) id
  have he1 : w1.ownsRow B 3 1 ev E.length (E.map (Value.int .i64)) := ownsRow_keep1 h.re k1 (fun g hg => row_other (by decide) h.re h.rl g hg) id
  refine ⟨⟨?_, ?_, ownsRow_keep1 hk1 (keep_setR 0 _) (row_ne (by decide) r1 hk1) id, ownsRow_keep1 he1 (keep_setR 0 _) (row_ne (by decide) r1 he1) id, h.ne, h.base⟩, ?_, cell_of r1 rfl, free_of r1 0⟩
  · unfold ShBlk; rw [heap_set r1]; rfl
  · rw [List.length_append, List.length_singleton, List.map_append]
    exact ownsRow_keep1 hown (keep_setR 0 _) (row_ne (by decide) r1 hown) id
  · exact (((Below.refl B w).alloc (by omega) _).grown hgrow (by simp; omega) (fun g hg => (ownsRow_row h.rl g hg).choose_spec.choose_spec.2)).setCell hB _

/-- a kind joins -/
theorem RdAt.pushK (h : RdAt w B R lv kv ev cl er at' L K E) (x : Nat) {o : Obj} {g cap : Nat} (hown : w1.ownsRow B 3 1 (.slice (some ⟨g, 0, none⟩) (K.length + 1) cap) (K.length + 1) (K.map intV ++ [intV x])) (hgrow : (w.alloc o).grownBy w1 kv.ownBlock) (hat : kv.ownBlock = some g ∨ g = w.heap.size + 1) :
    RdAt (w1.setCell ⟨R, 1, none⟩ (.slice (some ⟨g, 0, none⟩) (K.length + 1) cap)) B R lv (.slice (some ⟨g, 0, none⟩) (K.length + 1) cap) ev cl er at' L (K ++ [x]) E ∧ Below B w (w1.setCell ⟨R, 1, none⟩ (.slice (some ⟨g, 0, none⟩) (K.length + 1) cap)) ∧ w1.cell? ⟨R, 1, none⟩ = some kv ∧ w1.frozen? ⟨R, 1, none⟩ = false := by
  have hR := h.lt
  have hB := h.base
  have k1 := keep_grown hgrow
  have nR := row_ne (by decide) h.blk h.rk
  have r1 : ShBlk w1 R lv kv ev cl (.slice none 0 0) 0 false er at' := k1.cells h.blk (fun e => nR R e rfl) id
  have hl1 : w1.ownsRow B 9 1 lv L.length (L.map strV) := ownsRow_keep1 h.rl k1 (fun g hg => row_other (by decide) h.rl h.rk g hg) id
  have he1 : w1.ownsRow B 3 1 ev E.length (E.map (Value.int .i64)) := ownsRow_keep1 h.re k1 (fun g hg e => h.ne g e hg) id
  refine ⟨⟨?_, ownsRow_keep1 hl1 (keep_setR 1 _) (row_ne (by decide) r1 hl1) id, ?_, ownsRow_keep1 he1 (keep_setR 1 _) (row_ne (by decide) r1 he1) id, ?_, h.base⟩, ?_, cell_of r1 rfl, free_of r1 1⟩
  · unfold ShBlk; rw [heap_set r1]; rfl
  · rw [List.length_append, List.length_singleton, List.map_append]
    exact ownsRow_keep1 hown (keep_setR 1 _) (row_ne (by decide) r1 hown) id
  · intro g' hg'
    have : g' = g := by simpa [Value.ownBlock] using hg'.symm
    subst this
    rcases hat with hat | hat
    · exact h.ne _ hat
    · intro e
      obtain ⟨c, fz, h1, _⟩ := ownsRow_row h.re g' e
      have := lt_of h1
      omega
  · exact (((Below.refl B w).alloc (by omega) _).grown hgrow (by simp; omega) (fun g hg => (ownsRow_row h.rk g hg).choose_spec.choose_spec.2)).setCell hB _

/-- an end joins -/
theorem RdAt.pushE (h : RdAt w B R lv kv ev cl er at' L K E) (x : Int) {o : Obj} {g cap : Nat} (hown : w1.ownsRow B 3 1 (.slice (some ⟨g, 0, none⟩) (E.length + 1) cap) (E.length + 1) (E.map (Value.int .i64) ++ [.int .i64 x])) (hgrow : (w.alloc o).grownBy w1 ev.ownBlock) (hat : ev.ownBlock = some g ∨ g = w.heap.size + 1) :
    RdAt (w1.setCell ⟨R, 2, none⟩ (.slice (some ⟨g, 0, none⟩) (E.length + 1) cap)) B R lv kv (.slice (some ⟨g, 0, none⟩) (E.length + 1) cap) cl er at' L K (E ++ [x]) ∧ Below B w (w1.setCell ⟨R, 2, none⟩ (.slice (some ⟨g, 0, none⟩) (E.length + 1) cap)) ∧ w1.cell? ⟨R, 2, none⟩ = some ev ∧ w1.frozen? ⟨R, 2, none⟩ = false := by
  have hR := h.lt
  have hB := h.base
  have k1 := keep_grown hgrow
  have nR := row_ne (by decide) h.blk h.re
  have r1 : ShBlk w1 R lv kv ev cl (.slice none 0 0) 0 false er at' := k1.cells h.blk (fun e => nR R e rfl) id
  have hl1 : w1.ownsRow B 9 1 lv L.length (L.map strV) := ownsRow_keep1 h.rl k1 (fun g hg => row_other (by decide) h.rl h.re g hg) id
  have hk1 : w1.ownsRow B 3 1 kv K.length (K.map intV) := ownsRow_keep1 h.rk k1 (fun g hg => h.ne g hg) id
  refine ⟨⟨?_, ownsRow_keep1 hl1 (keep_setR 2 _) (row_ne (by decide) r1 hl1) id, ownsRow_keep1 hk1 (keep_setR 2 _) (row_ne (by decide) r1 hk1) id, ?_, ?_, h.base⟩, ?_, cell_of r1 rfl, free_of r1 2⟩
  · unfold ShBlk; rw [heap_set r1]; rfl
  · rw [List.length_append, List.length_singleton, List.map_append]
    exact ownsRow_keep1 hown (keep_setR 2 _) (row_ne (by decide) r1 hown) id
  · intro g' hg' e
    have : g = g' := by simpa [Value.ownBlock] using e
    subst this
    rcases hat with hat | hat
    · exact h.ne _ hg' hat
    · obtain ⟨c, fz, h1, _⟩ := ownsRow_row h.rk g hg'
      have := lt_of h1
      omega
  · exact (((Below.refl B w).alloc (by omega) _).grown hgrow (by simp; omega) (fun g hg => (ownsRow_row h.re g hg).choose_spec.choose_spec.2)).setCell hB _

/-- the clients are known -/
theorem RdAt.setCl (h : RdAt w B R lv kv ev cl er at' L K E) (n : Int) : RdAt (w.setCell ⟨R, 3, none⟩ (.int .i64 n)) B R lv kv ev n er at' L K E ∧ Below B w (w.setCell ⟨R, 3, none⟩ (.int .i64 n)) := by
  refine ⟨⟨?_, ownsRow_keep1 h.rl (keep_setR 3 _) (row_ne (by decide) h.blk h.rl) id, ownsRow_keep1 h.rk (keep_setR 3 _) (row_ne (by decide) h.blk h.rk) id, ownsRow_keep1 h.re (keep_setR 3 _) (row_ne (by decide) h.blk h.re) id, h.ne, h.base⟩, (Below.refl B w).setCell h.base _⟩
  unfold ShBlk; rw [heap_set h.blk]; rfl
/-- an error is put -/
theorem RdAt.setErr (h : RdAt w B R lv kv ev cl er at' L K E) (x : Drl.Err) (hx : x.2 ≠ 0) : ErrSh ((w.setCell ⟨R, 7, none⟩ (.int .i64 (x.2 : Nat))).setCell ⟨R, 8, none⟩ (.int .i64 (x.1 : Nat))) R lv kv ev x ∧ Below B w ((w.setCell ⟨R, 7, none⟩ (.int .i64 (x.2 : Nat))).setCell ⟨R, 8, none⟩ (.int .i64 (x.1 : Nat))) := by
  refine ⟨⟨hx, cl, .slice none 0 0, 0, false, ?_⟩, ((Below.refl B w).setCell h.base _).setCell h.base _⟩
  unfold ShBlk; rw [heap_set (heap_set h.blk _) _]; rfl
theorem RdAt.sh (h : RdAt w B R lv kv ev cl er at' L K E) (h1 : K.length = L.length) (h2 : E.length = L.length) (h3 : 0 < L.length) : Sh w R lv kv ev L K E := by
  obtain ⟨c0, c1, c2⟩ := h.blk.cells
  refine ⟨c0, c1, c2, RowT.of_own (B := B) (by rw [List.length_map]; exact h.rl), RowT.of_own (B := B) (by rw [List.length_map]; exact h.rk), RowT.of_own (B := B) (by rw [List.length_map]; exact h.re), h1, h2, h3⟩

/-! ### with what is open -/
structure Rd3 (w : World) (B R : Nat) (lv kv ev ov : Value) (cl : Int) (L : List Drl.Str) (K : List Nat) (E : List Int) (opn : List Nat) : Prop where
  rd : RdAt w B R lv kv ev cl 0 0 L K E
  ro : w.ownsRow B 3 1 ov opn.length (opn.map intV)
  nk : ∀ g, ov.ownBlock = some g → kv.ownBlock ≠ some g
  ne : ∀ g, ov.ownBlock = some g → ev.ownBlock ≠ some g

theorem Rd3.next {ov : Value} {opn : List Nat} {w' : World} (h : Rd3 w B R lv kv ev ov cl L K E opn) (hb : Below w.heap.size w w') : Rd3 w' B R lv kv ev ov cl L K E opn := by
  have hk : Keep (fun _ => False) (fun _ => False) w w' := .of_next hb
  exact ⟨h.rd.next hb, ownsRow_keep1 h.ro hk (fun _ _ => id) id, h.nk, h.ne⟩
/-- a block begins -/
theorem Rd3.push {ov : Value} {opn : List Nat} (h : Rd3 w B R lv kv ev ov cl L K E opn) (x : Nat) {o : Obj} {g cap : Nat} (hown : w1.ownsRow B 3 1 (.slice (some ⟨g, 0, none⟩) (opn.length + 1) cap) (opn.length + 1) (opn.map intV ++ [intV x])) (hgrow : (w.alloc o).grownBy w1 ov.ownBlock) (hat : ov.ownBlock = some g ∨ g = w.heap.size + 1) :
    Rd3 w1 B R lv kv ev (.slice (some ⟨g, 0, none⟩) (opn.length + 1) cap) cl L K E (opn ++ [x]) ∧ Below B w w1 := by
  have hR := h.rd.lt
  have hB := h.rd.base
  have k1 := keep_grown hgrow
  have nR := row_ne (by decide) h.rd.blk h.ro
  have r1 : ShBlk w1 R lv kv ev cl (.slice none 0 0) 0 false 0 0 := k1.cells h.rd.blk (fun e => nR R e rfl) id
  have hl1 : w1.ownsRow B 9 1 lv L.length (L.map strV) := ownsRow_keep1 h.rd.rl k1 (fun g hg => row_other (by decide) h.rd.rl h.ro g hg) id
  have hk1 : w1.ownsRow B 3 1 kv K.length (K.map intV) := ownsRow_keep1 h.rd.rk k1 (fun g hg e => h.nk g e hg) id
  have he1 : w1.ownsRow B 3 1 ev E.length (E.map (Value.int .i64)) := ownsRow_keep1 h.rd.re k1 (fun g hg e => h.ne g e hg) id
  have hnew : ∀ {v : Value} {n : Nat} {xs : List Value}, w.ownsRow B 3 1 v n xs → (∀ g, ov.ownBlock = some g → v.ownBlock ≠ some g) → ∀ g', (Value.slice (some ⟨g, 0, none⟩) (opn.length + 1) cap).ownBlock = some g' → v.ownBlock ≠ some g' := by
    intro v n xs hv hd g' hg' e
    have : g = g' := by simpa [Value.ownBlock] using hg'
    subst this
    rcases hat with hat | hat
    · exact hd _ hat e
    · obtain ⟨c, fz, h1, _⟩ := ownsRow_row hv g e
      have := lt_of h1
      omega
  refine ⟨⟨⟨r1, hl1, hk1, he1, h.rd.ne, hB⟩, by rw [List.length_append, List.length_singleton, List.map_append]; exact hown, hnew h.rd.rk h.nk, hnew h.rd.re h.ne⟩, ?_⟩
  exact ((Below.refl B w).alloc (by omega) _).grown hgrow (by simp; omega) (fun g hg => (ownsRow_row h.ro g hg).choose_spec.choose_spec.2)

/-- the last that is open ends -/
theorem Rd3.pop {opn : List Nat} {og oc eg ec : Nat} (h : Rd3 w B R lv kv (.slice (some ⟨eg, 0, none⟩) E.length ec) (.slice (some ⟨og, 0, none⟩) opn.length oc) cl L K E opn) (j : Nat) (hj : j < E.length) (x : Int) :
    Rd3 (w.setCell ⟨eg, j, none⟩ (.int .i64 x)) B R lv kv (.slice (some ⟨eg, 0, none⟩) E.length ec) (.slice (some ⟨og, 0, none⟩) (opn.length - 1) oc) cl L K (E.set j x) opn.dropLast ∧ Below B w (w.setCell ⟨eg, j, none⟩ (.int .i64 x)) ∧ w.frozen? ⟨eg, j, none⟩ = false := by
  obtain ⟨e1, e2⟩ := h.rd.re
  rcases e2 with ⟨h3, h4⟩ | ⟨g', cap', cur, hv, hb, hh, hnc, hcm, hcs, htk⟩
  · cases h3
  cases hv
  have hk : Keep (fun k => k = eg) (fun _ => False) w (w.setCell ⟨eg, j, none⟩ (.int .i64 x)) := (Keep.refl (fun k => k = eg) (fun _ => False) w).setCell ⟨eg, j, none⟩ rfl _
  have neg : ∀ {v : Value}, v.ownBlock ≠ some eg → ∀ g, v.ownBlock = some g → ¬ g = eg := fun hv g hg e => hv (by rw [← e]; exact hg)
  have nR : R ≠ eg := fun e => ne_of_type hh (by rw [← e]; exact h.rd.blk) (by decide) rfl
  have n1 : lv.ownBlock ≠ some eg := fun e => row_other (by decide) h.rd.rl h.rd.re eg e rfl
  have n2 : kv.ownBlock ≠ some eg := fun e => h.rd.ne eg e rfl
  have n3 : (Value.slice (some ⟨og, 0, none⟩) opn.length oc).ownBlock ≠ some eg := fun e => h.ne eg e rfl
  have hro := ownsRow_keep1 h.ro hk (neg n3) id
  refine ⟨⟨⟨hk.cells h.rd.blk nR id, ownsRow_keep1 h.rd.rl hk (neg n1) id, ownsRow_keep1 h.rd.rk hk (neg n2) id, ?_, h.rd.ne, h.rd.base⟩, ?_, h.nk, h.ne⟩, (Below.refl B w).setCell hb _, free_of hh j⟩
  · rw [List.length_set]
    refine ⟨by simp, .inr ⟨eg, ec, cur.setIfInBounds j (.int .i64 x), rfl, hb, heap_set hh _, hnc, hcm, by simpa using hcs, ?_⟩⟩
    rw [Array.toList_setIfInBounds, Nat.mul_one, List.take_set, List.map_set]
    rw [Nat.mul_one] at htk
    rw [htk]
  · obtain ⟨o1, o2⟩ := hro
    refine ⟨by simp, ?_⟩
    rcases o2 with ⟨h3, _⟩ | ⟨g', cap', cur', hv', hb', hh', hnc', hcm', hcs', htk'⟩
    · cases h3
    · cases hv'
      refine .inr ⟨og, oc, cur', by rw [List.length_dropLast], hb', hh', by rw [List.length_dropLast]; omega, hcm', hcs', ?_⟩
      rw [Nat.mul_one] at htk'
      rw [List.map_dropLast, ← htk', List.length_dropLast, List.dropLast_eq_take, List.length_take, List.take_take, Nat.mul_one]
      congr 1
      have hsz : cur'.toList.length = oc := by simpa using hcs'
      rw [hsz]
      omega
end
end Go.Proofs.YtfbmlnkgjgnnhaaGreatDoor
