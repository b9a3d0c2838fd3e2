import Derived.Below
import Derived.Lib.OthersKept
import Derived.Deep.Draws
import Derived.Scope
set_option linter.unusedSimpArgs false
set_option linter.unusedVariables false

section
/- Frames: what a call leaves as it was. Of no program. -/
namespace Go.RowKit
set_option linter.unusedVariables false

/-- Every block that is not among S, and whose cells are of none of the element types es, stands as it stood. -/
structure Keep (S : Nat → Prop) (es : TypeId → Prop) (w w' : World) : Prop where
  os : w'.os = w.os
  tape : w'.tape = w.tape
  output : w'.output = w.output
  size : w.heap.size ≤ w'.heap.size
  kept : ∀ k o, w.heap[k]? = some o → ¬ S k → (∀ c e fz, o = .cells c e fz → ¬ es e) → w'.heap[k]? = some o

theorem Keep.refl (S : Nat → Prop) (es : TypeId → Prop) (w : World) : Keep S es w w := ⟨rfl, rfl, rfl, Nat.le_refl _, fun _ _ h _ _ => h⟩
theorem Keep.trans {S : Nat → Prop} {es : TypeId → Prop} {a b c : World} (h : Keep S es a b) (k : Keep S es b c) : Keep S es a c :=
  ⟨k.os.trans h.os, k.tape.trans h.tape, k.output.trans h.output, Nat.le_trans h.size k.size, fun i o hi hS he => k.kept i o (h.kept i o hi hS he) hS he⟩
theorem Keep.mono {S S' : Nat → Prop} {es es' : TypeId → Prop} {a b : World} (h : Keep S es a b) (hS : ∀ k, S k → S' k) (he : ∀ k, es k → es' k) : Keep S' es' a b :=
  ⟨h.os, h.tape, h.output, h.size, fun i o hi hs ht => h.kept i o hi (fun x => hs (hS _ x)) fun c e fz ho x => ht c e fz ho (he _ x)⟩
/-- Old blocks all stand. -/
theorem Keep.of_next {S : Nat → Prop} {es : TypeId → Prop} {a b : World} (h : Below a.heap.size a b) : Keep S es a b :=
  ⟨h.os, h.tape, h.output, h.size, fun i o hi _ _ => (h.block i (Array.getElem?_eq_some_iff.1 hi).1).trans hi⟩
theorem Keep.next {S : Nat → Prop} {es : TypeId → Prop} {a b c : World} (h : Keep S es a b) (k : Below b.heap.size b c) : Keep S es a c := h.trans (.of_next k)
theorem Keep.drew {S : Nat → Prop} {es : TypeId → Prop} {a b : World} (h : Keep S es a b) : Keep S es a b.drew := ⟨h.os, h.tape, h.output, h.size, h.kept⟩
theorem Keep.drewN {S : Nat → Prop} {es : TypeId → Prop} {a b : World} (h : Keep S es a b) (n : Nat) : Keep S es a (b.drewN n) := ⟨h.os, h.tape, h.output, h.size, h.kept⟩
theorem Keep.alloc {S : Nat → Prop} {es : TypeId → Prop} {a b : World} (h : Keep S es a b) (o : Obj) : Keep S es a (b.alloc o) :=
  h.next ((Below.refl _ b).alloc (Nat.le_refl _) o)
/-- A store into a block of S. -/
theorem Keep.setCell {S : Nat → Prop} {es : TypeId → Prop} {a b : World} (h : Keep S es a b) (p : Addr) (hp : S p.block) (v : Value) : Keep S es a (b.setCell p v) := by
  refine h.trans ⟨rfl, rfl, rfl, by simp [World.setCell], fun k o hk hS _ => ?_⟩
  rw [Below.heap_setCell _ _ _ _ (fun e => hS (by rw [e]; exact hp))]
  exact hk
/-- A store into a row of one of the element types. -/
theorem Keep.setRow {S : Nat → Prop} {es : TypeId → Prop} {a b : World} (h : Keep S es a b) (p : Addr) {c : Array Value} {e : TypeId} {fz : Nat × Nat} (hp : b.heap[p.block]? = some (.cells c e fz)) (he : es e) (v : Value) : Keep S es a (b.setCell p v) := by
  refine h.trans ⟨rfl, rfl, rfl, by simp [World.setCell], fun k o hk hS hn => ?_⟩
  rw [Below.heap_setCell _ _ _ _ (fun e1 => ?_)]
  · exact hk
  · subst e1; rw [hp] at hk; exact hn c e fz (Option.some.inj hk).symm he
/-- An append onto a row of one of the element types, or of no row. -/
theorem Keep.grown {S : Nat → Prop} {es : TypeId → Prop} {a b c : World} {row : Option Nat} (h : Keep S es a b) (hg : b.grownBy c row) (hrow : ∀ g, row = some g → S g ∨ ∃ cs e fz, b.heap[g]? = some (.cells cs e fz) ∧ es e) : Keep S es a c := by
  refine h.trans ⟨hg.os, hg.tape, hg.output, hg.size, fun k o hk hS hn => ?_⟩
  rw [hg.block k (Array.getElem?_eq_some_iff.1 hk).1 ?_]
  · exact hk
  · intro e1
    rcases hrow k e1.symm with h' | ⟨cs, e, fz, hc, he⟩
    · exact hS h'
    · rw [hk] at hc; exact hn cs e fz (Option.some.inj hc) he
theorem Keep.cells {S : Nat → Prop} {es : TypeId → Prop} {a b : World} (h : Keep S es a b) {k : Nat} {c : Array Value} {e : TypeId} {fz : Nat × Nat} (hk : a.heap[k]? = some (.cells c e fz)) (hS : ¬ S k) (he : ¬ es e) : b.heap[k]? = some (.cells c e fz) :=
  h.kept k _ hk hS fun c' e' fz' h1 => by cases h1; exact he
theorem Keep.iter {S : Nat → Prop} {es : TypeId → Prop} {a b : World} (h : Keep S es a b) {k : Nat} {s : ByteArray} {p : Nat} (hk : a.heap[k]? = some (.stringIter s p)) (hS : ¬ S k) : b.heap[k]? = some (.stringIter s p) :=
  h.kept k _ hk hS fun c' e' fz' h1 => by cases h1
/-- An iterator among S is moved on. -/
theorem Keep.iterAt {S : Nat → Prop} {es : TypeId → Prop} {a b : World} (h : Keep S es a b) (k : Nat) (hS : S k) (s : ByteArray) (p : Nat) : Keep S es a (b.iterAt k s p) := by
  refine h.trans ⟨rfl, rfl, rfl, by rw [Lib.iterAt_size]; exact Nat.le_refl _, fun j o hj hn _ => ?_⟩
  rw [Lib.iterAt_other b k j s p (fun e => hn (by rw [e]; exact hS))]
  exact hj

theorem Below.of_keep {S : Nat → Prop} {es : TypeId → Prop} {a b : World} {B : Nat} (h : Keep S es a b) (hB : ∀ k, k < B → ∃ o, a.heap[k]? = some o ∧ ¬ S k ∧ ∀ c e fz, o = .cells c e fz → ¬ es e) : Below B a b :=
  ⟨h.os, h.tape, h.output, h.size, fun k hk => by obtain ⟨o, ho, h1, h2⟩ := hB k hk; rw [h.kept k o ho h1 h2, ho]⟩

/-- A block that is known whole. -/
theorem cell_of {w : World} {b i : Nat} {c : Array Value} {e : TypeId} {fz : Nat × Nat} {v : Value} (h : w.heap[b]? = some (.cells c e fz)) (hv : c[i]? = some v) : w.cell? ⟨b, i, none⟩ = some v := by
  simp [World.cell?, h, hv]
theorem free_of {w : World} {b : Nat} {c : Array Value} {e : TypeId} (h : w.heap[b]? = some (.cells c e (0, 0))) (i : Nat) : w.frozen? ⟨b, i, none⟩ = false := by
  simp [World.frozen?, h]
theorem lt_of {w : World} {b : Nat} {o : Obj} (h : w.heap[b]? = some o) : b < w.heap.size := (Array.getElem?_eq_some_iff.1 h).1
theorem heap_set {w : World} {b i : Nat} {c : Array Value} {e : TypeId} {fz : Nat × Nat} (h : w.heap[b]? = some (.cells c e fz)) (v : Value) : (w.setCell ⟨b, i, none⟩ v).heap[b]? = some (.cells (c.setIfInBounds i v) e fz) := by
  simp [World.setCell, Array.getElem?_modify, h]
theorem heap_set_other {w : World} {b k i : Nat} (h : k ≠ b) (v : Value) : (w.setCell ⟨b, i, none⟩ v).heap[k]? = w.heap[k]? := Below.heap_setCell _ _ _ _ h
theorem heap_new (w : World) (o : Obj) : (w.alloc o).heap[w.heap.size]? = some o := heap_alloc_new w o
theorem heap_old {w : World} {k : Nat} {o x : Obj} (h : w.heap[k]? = some x) : (w.alloc o).heap[k]? = some x := (Below.heap_alloc w o k (lt_of h)).trans h
theorem size_alloc (w : World) (o : Obj) : (w.alloc o).heap.size = w.heap.size + 1 := by simp
theorem size_setCell (w : World) (p : Addr) (v : Value) : (w.setCell p v).heap.size = w.heap.size := by simp [World.setCell]
theorem cell_old {w : World} {a : Addr} {v : Value} {o : Obj} (h : w.cell? a = some v) : (w.alloc o).cell? a = some v :=
  (World.cell?_of_block (w := w) (Below.heap_alloc w o a.block (World.block_lt_of_cell? w a h))).trans h
theorem cell_lt {w : World} {a : Addr} {v : Value} (h : w.cell? a = some v) : a.block < w.heap.size := World.block_lt_of_cell? w a h
theorem grown_cell {w w' : World} {row : Option Nat} (hg : w.grownBy w' row) {a : Addr} {v : Value} (h : w.cell? a = some v) (hne : row ≠ some a.block) : w'.cell? a = some v :=
  (World.cell?_of_block (hg.block a.block (World.block_lt_of_cell? w a h) (fun e => hne e.symm))).trans h
theorem grown_heap {w w' : World} {row : Option Nat} (hg : w.grownBy w' row) {k : Nat} {o : Obj} (h : w.heap[k]? = some o) (hne : row ≠ some k) : w'.heap[k]? = some o :=
  (hg.block k (lt_of h) (fun e => hne e.symm)).trans h
theorem cell_one {w : World} {b : Nat} {v : Value} {e : TypeId} (h : w.heap[b]? = some (.cells #[v] e (0, 0))) : w.cell? ⟨b, 0, none⟩ = some v := cell_of h rfl
theorem cell_set_other {w : World} {b k i j : Nat} {u v : Value} (h : w.cell? ⟨k, j, none⟩ = some u) (hne : k ≠ b) : (w.setCell ⟨b, i, none⟩ v).cell? ⟨k, j, none⟩ = some u :=
  (World.cell?_of_block (w := w) (heap_set_other hne v)).trans h
theorem free_set_other {w : World} {b k i j : Nat} {v : Value} (h : w.frozen? ⟨k, j, none⟩ = false) (hne : k ≠ b) : (w.setCell ⟨b, i, none⟩ v).frozen? ⟨k, j, none⟩ = false :=
  (World.frozen?_of_block (w := w) (heap_set_other hne v)).trans h
theorem heap_new2 (w : World) (o o' : Obj) : ((w.alloc o).alloc o').heap[w.heap.size + 1]? = some o' := by
  have := heap_new (w.alloc o) o'
  rwa [size_alloc] at this
theorem below_cell {w w' : World} (hb : Below w.heap.size w w') {a : Addr} {v : Value} (h : w.cell? a = some v) : w'.cell? a = some v := (hb.cell (cell_lt h)).trans h
theorem below_free {w w' : World} (hb : Below w.heap.size w w') {b : Nat} {o : Obj} (h : w.heap[b]? = some o) : w'.heap[b]? = some o := (hb.block b (lt_of h)).trans h
theorem ne_of_type {w : World} {b b' : Nat} {c c' : Array Value} {e e' : TypeId} {fz fz' : Nat × Nat} (h : w.heap[b]? = some (.cells c e fz)) (h' : w.heap[b']? = some (.cells c' e' fz')) (hne : e ≠ e') : b ≠ b' := by
  intro x
  subst x
  rw [h] at h'
  exact hne (Obj.cells.inj (Option.some.inj h')).2.1
theorem ownsRow_keep {S : Nat → Prop} {es : TypeId → Prop} {w w' : World} {base : Nat} {e : TypeId} {size : Nat} {v : Value} {n : Nat} {xs : List Value} (h : w.ownsRow base e size v n xs) (hk : Keep S es w w') (hS : ∀ b c fz, w.heap[b]? = some (.cells c e fz) → ¬ S b) (he : ¬ es e) : w'.ownsRow base e size v n xs := by
  obtain ⟨h1, h2⟩ := h
  refine ⟨h1, ?_⟩
  rcases h2 with h2 | ⟨g, cap, cur, hv, hg, hh, r⟩
  · exact Or.inl h2
  · exact Or.inr ⟨g, cap, cur, hv, hg, hk.cells hh (hS g _ _ hh) he, r⟩
/-- What a value that owns something owns: its row's elements are of the type. -/
theorem ownsRow_row {w : World} {base : Nat} {e : TypeId} {size : Nat} {v : Value} {n : Nat} {xs : List Value} (h : w.ownsRow base e size v n xs) : ∀ g, v.ownBlock = some g → ∃ cs fz, w.heap[g]? = some (.cells cs e fz) ∧ base ≤ g := by
  intro g hg
  rcases h.2 with ⟨rfl, _⟩ | ⟨g', cap, cur, rfl, hb, hh, _⟩
  · simp [Value.ownBlock] at hg
  · simp [Value.ownBlock] at hg
    subst hg
    exact ⟨cur, _, hh, hb⟩
end Go.RowKit
end

section
/- A scope in which the run jumps to several labels, forth and back. Of no program. -/
namespace Go

/-- As Q; by a goto to label l: J l. -/
def Exit.jumps (J : Nat → Act → World → Prop) (Q : Exit → Act → World → Prop) : Exit → Act → World → Prop
  | .goto l, a, w => J l a w
  | e, a, w => Q e a w

section
variable {P : Program} {a : Act} {w : World} {Q : Exit → Act → World → Prop}

theorem wp_scope_labels {c : Code} (J : Nat → Act → World → Prop) (rest : Nat → Code) (μ : Nat → Act → World → Nat) (hf : ∀ l a w, J l a w → findLabel c l = some (rest l))
    (first : c.wp P (Exit.jumps J Q) a w)
    (pass : ∀ l a w, J l a w → (rest l).wp P (Exit.jumps (fun l' a' w' => J l' a' w' ∧ μ l' a' w' < μ l a w) Q) a w) : (Code.scope c).wp P Q a w := by
  intro b k cs
  have hg : ∀ l a w, J l a w → gotoIn l (.inScope c :: k) = some (.code (rest l) :: .inScope c :: k) := fun l a w h => by simp [gotoIn, hf l a w h]
  have key : ∀ n l a w, μ l a w = n → J l a w → ∃ e a' w', Q e a' w' ∧ Arrives P (lone (b.at a (.code (rest l) :: .inScope c :: k)) cs w) b k cs e a' w' := by
    intro n
    induction n using Nat.strongRecOn with
    | _ n ih =>
      intro l a w hn hJ
      obtain ⟨e, a₁, w₁, hq, harr⟩ := pass l a w hJ b (.inScope c :: k) cs
      cases e with
      | normal => exact ⟨.normal, a₁, w₁, hq, Steps.trans harr (.one step_inScope)⟩
      | exit id => exact ⟨.exit id, a₁, w₁, hq, fun k' hk => harr k' (by simp [exitTo, hk])⟩
      | goto l' =>
        obtain ⟨hJ', hlt⟩ := hq
        obtain ⟨e₂, a₂, w₂, hq₂, harr₂⟩ := ih _ (by omega) l' a₁ w₁ rfl hJ'
        exact ⟨e₂, a₂, w₂, hq₂, .of_steps (harr _ (hg l' a₁ w₁ hJ')) harr₂⟩
      | ret => exact ⟨_, a₁, w₁, hq, harr⟩
      | panic ch => exact ⟨_, a₁, w₁, hq, harr⟩
      | outgrown => exact ⟨_, a₁, w₁, hq, harr⟩
  obtain ⟨e, a₁, w₁, hq, harr⟩ := first b (.inScope c :: k) cs
  cases e with
  | normal => exact ⟨.normal, a₁, w₁, hq, .head step_scope (Steps.trans harr (.one step_inScope))⟩
  | exit id => exact ⟨.exit id, a₁, w₁, hq, fun k' hk => .head step_scope (harr k' (by simp [exitTo, hk]))⟩
  | goto l' =>
    obtain ⟨e₂, a₂, w₂, hq₂, harr₂⟩ := key _ l' a₁ w₁ rfl hq
    exact ⟨e₂, a₂, w₂, hq₂, .of_steps (.head step_scope (harr _ (hg l' a₁ w₁ hq))) harr₂⟩
  | ret => exact ⟨_, a₁, w₁, hq, .of_steps (.one step_scope) harr⟩
  | panic ch => exact ⟨_, a₁, w₁, hq, .of_steps (.one step_scope) harr⟩
  | outgrown => exact ⟨_, a₁, w₁, hq, .of_steps (.one step_scope) harr⟩

theorem wp_scope_three {c r0 r1 r2 : Code} (J : Nat → Act → World → Prop) (μ : Nat → Act → World → Nat) (hJ : ∀ l a w, J l a w → l = 0 ∨ l = 1 ∨ l = 2)
    (h0 : findLabel c 0 = some r0) (h1 : findLabel c 1 = some r1) (h2 : findLabel c 2 = some r2)
    (first : c.wp P (Exit.jumps J Q) a w)
    (pass0 : ∀ a w, J 0 a w → r0.wp P (Exit.jumps (fun l' a' w' => J l' a' w' ∧ μ l' a' w' < μ 0 a w) Q) a w)
    (pass1 : ∀ a w, J 1 a w → r1.wp P (Exit.jumps (fun l' a' w' => J l' a' w' ∧ μ l' a' w' < μ 1 a w) Q) a w)
    (pass2 : ∀ a w, J 2 a w → r2.wp P (Exit.jumps (fun l' a' w' => J l' a' w' ∧ μ l' a' w' < μ 2 a w) Q) a w) : (Code.scope c).wp P Q a w := by
  refine wp_scope_labels J (fun l => if l = 0 then r0 else if l = 1 then r1 else r2) μ ?_ first ?_
  · intro l a w h
    rcases hJ l a w h with rfl | rfl | rfl
    · simpa using h0
    · simpa using h1
    · simpa using h2
  · intro l a w h
    rcases hJ l a w h with rfl | rfl | rfl
    · simpa using pass0 a w h
    · simpa using pass1 a w h
    · simpa using pass2 a w h
end
end Go
end
