import Derived.Test.YtfbmlnkgjgnnhaaGreatDoorJA11g
import Derived.Test.YtfbmlnkgjgnnhaaGreatDoorJP0
import Derived.WalkSmall
set_option linter.unusedSimpArgs false
set_option linter.unusedVariables false
namespace Go.Proofs.YtfbmlnkgjgnnhaaGreatDoor
open Go.RowKit
set_option linter.unusedVariables false

def useV (ad : Nat → Nat) (u : Option Nat) : Value := optPtr ad u
def nodeCells (ad : Nat → Nat) (wv bv : Value) (n : Drl.Nd) : Array Value := #[.int .i64 n.at_, strV n.text, wv, .int .u8 n.letter.toNat, bv, useV ad n.use]
def WordsOk (w : World) (v : Value) (ws : List Drl.Str) : Prop := (ws = [] ∧ v = .slice none 0 0) ∨ WordsAt w v ws

/-- the blocks' nodes in memory -/
structure Nodes (w : World) (B : Nat) (ad : Nat → Nat) (wv bv : Nat → Value) (ar : List Drl.Nd) : Prop where
  node : ∀ i, i < ar.length → w.heap[ad i]? = some (.cells (nodeCells ad (wv i) (bv i) (Drl.nd ar i)) 62 (0, 0))
  words : ∀ i, i < ar.length → WordsOk w (wv i) (Drl.nd ar i).ws
  body : ∀ i, i < ar.length → w.ownsRow B 50 1 (bv i) (Drl.nd ar i).body.length ((Drl.nd ar i).body.map (nptr ad))
  inj : ∀ i j, i < ar.length → j < ar.length → ad i = ad j → i = j
  sep : ∀ i j g, i < ar.length → j < ar.length → (bv i).ownBlock = some g → (bv j).ownBlock = some g → i = j
  base : ∀ i, i < ar.length → B ≤ ad i

/-- the reader in memory -/
structure RMem (w : World) (B Rb Mb : Nat) (ov : Value) (ad : Nat → Nat) (wv bv : Nat → Value) (st : Drl.RSt) : Prop where
  nodes : Nodes w B ad wv bv st.ar
  osep : ∀ i g, i < st.ar.length → (bv i).ownBlock = some g → ov.ownBlock ≠ some g
  rd : w.heap[Rb]? = some (.cells #[ov, .map (some Mb)] 95 (0, 0))
  opn : w.ownsRow B 50 1 ov st.opn.length (st.opn.map (nptr ad))
  map : MapIs w Mb ad st.names
  baseR : B ≤ Rb
  baseM : B ≤ Mb

theorem WordsOk.keep {S : Nat → Prop} {es : TypeId → Prop} {w w' : World} {v : Value} {ws : List Drl.Str} (h : WordsOk w v ws) (hk : Keep S es w w') (hS : ∀ b c fz, w.heap[b]? = some (.cells c 9 fz) → ¬ S b) (he : ¬ es 9) : WordsOk w' v ws :=
  h.elim .inl fun h => .inr (h.keep hk hS he)

theorem Nodes.keep {S : Nat → Prop} {es : TypeId → Prop} {w w' : World} {B : Nat} {ad : Nat → Nat} {wv bv : Nat → Value} {ar : List Drl.Nd} (h : Nodes w B ad wv bv ar) (hk : Keep S es w w')
    (hS : ∀ b c e fz, w.heap[b]? = some (.cells c e fz) → e = 62 ∨ e = 50 ∨ e = 9 → ¬ S b) (h1 : ¬ es 62) (h2 : ¬ es 50) (h3 : ¬ es 9) : Nodes w' B ad wv bv ar :=
  ⟨fun i hi => hk.cells (h.node i hi) (hS _ _ _ _ (h.node i hi) (.inl rfl)) h1,
   fun i hi => (h.words i hi).keep hk (fun b c fz hb => hS b c _ fz hb (.inr (.inr rfl))) h3,
   fun i hi => ownsRow_keep (h.body i hi) hk (fun b c fz hb => hS b c _ fz hb (.inr (.inl rfl))) h2, h.inj, h.sep, h.base⟩

theorem RMem.next {w w' : World} {B Rb Mb : Nat} {ov : Value} {ad : Nat → Nat} {wv bv : Nat → Value} {st : Drl.RSt} (h : RMem w B Rb Mb ov ad wv bv st) (hb : Below w.heap.size w w') : RMem w' B Rb Mb ov ad wv bv st := by
  have hk : Keep (fun _ => False) (fun _ => False) w w' := .of_next hb
  exact ⟨h.nodes.keep hk (fun _ _ _ _ _ _ => id) id id id, h.osep, hk.cells h.rd id id, ownsRow_keep h.opn hk (fun _ _ _ _ => id) id, h.map.next hb, h.baseR, h.baseM⟩

def setF {α : Type} (f : Nat → α) (k : Nat) (v : α) : Nat → α := fun i => if i = k then v else f i
theorem setF_eq {α : Type} (f : Nat → α) (k : Nat) (v : α) : setF f k v k = v := by simp [setF]
theorem setF_ne {α : Type} (f : Nat → α) {k i : Nat} (v : α) (h : i ≠ k) : setF f k v i = f i := by simp [setF, h]

theorem nptr_setF {ad : Nat → Nat} {k b : Nat} {l : List Nat} (h : ∀ i ∈ l, i < k) : l.map (nptr (setF ad k b)) = l.map (nptr ad) := by
  apply List.map_congr_left
  intro i hi
  have := h i hi
  simp only [nptr, setF_ne ad b (show i ≠ k by omega)]
theorem useV_setF {ad : Nat → Nat} {k b : Nat} {u : Option Nat} (h : ∀ i, u = some i → i < k) : useV (setF ad k b) u = useV ad u := by
  cases u with
  | none => rfl
  | some i => have := h i rfl; simp only [useV, optPtr, nptr, setF_ne ad b (show i ≠ k by omega)]

/-- a new node joins: its block is known, no list has it yet -/
theorem RMem.push {w : World} {B Rb Mb : Nat} {ov : Value} {ad : Nat → Nat} {wv bv : Nat → Value} {st : Drl.RSt} (h : RMem w B Rb Mb ov ad wv bv st) (hI : Drl.Inv st) (x : Drl.Nd) (b : Nat) (v : Value)
    (hb : w.heap[b]? = some (.cells (nodeCells ad v (.slice none 0 0) x) 62 (0, 0))) (hB : B ≤ b) (hnew : ∀ i, i < st.ar.length → ad i ≠ b) (hv : WordsOk w v x.ws) (hx : x.body = []) (hu : ∀ d, x.use = some d → d < st.ar.length) :
    RMem w B Rb Mb ov (setF ad st.ar.length b) (setF wv st.ar.length v) (setF bv st.ar.length (.slice none 0 0)) { st with ar := st.ar ++ [x] } := by
  have hlt : ∀ {i}, i < (st.ar ++ [x]).length → i = st.ar.length ∨ i < st.ar.length := fun hi => by simp at hi; omega
  have hne : ∀ {i}, i < st.ar.length → i ≠ st.ar.length := fun h => Nat.ne_of_lt h
  refine ⟨⟨?_, ?_, ?_, ?_, ?_, ?_⟩, ?_, h.rd, ?_, ?_, h.baseR, h.baseM⟩
  · intro i hi
    rcases hlt hi with rfl | hi
    · rw [setF_eq, setF_eq, setF_eq, Drl.nd_last, hb]
      unfold nodeCells
      rw [useV_setF hu]
    · rw [setF_ne _ _ (hne hi), setF_ne _ _ (hne hi), setF_ne _ _ (hne hi), Drl.nd_append hi, h.nodes.node i hi]
      unfold nodeCells
      rw [useV_setF (h := fun d hd => hI.uselt i hi d hd)]
  · intro i hi
    rcases hlt hi with rfl | hi
    · rw [setF_eq, Drl.nd_last]; exact hv
    · rw [setF_ne _ _ (hne hi), Drl.nd_append hi]; exact h.nodes.words i hi
  · intro i hi
    rcases hlt hi with rfl | hi
    · rw [setF_eq, Drl.nd_last, hx]; exact World.ownsRow_nil _ _ _ _
    · rw [setF_ne _ _ (hne hi), Drl.nd_append hi, nptr_setF (hI.bodylt i hi)]; exact h.nodes.body i hi
  · intro i j hi hj e
    rcases hlt hi with rfl | hi <;> rcases hlt hj with rfl | hj
    · rfl
    · rw [setF_eq, setF_ne _ _ (hne hj)] at e; exact absurd e.symm (hnew j hj)
    · rw [setF_eq, setF_ne _ _ (hne hi)] at e; exact absurd e (hnew i hi)
    · rw [setF_ne _ _ (hne hi), setF_ne _ _ (hne hj)] at e; exact h.nodes.inj i j hi hj e
  · intro i j g hi hj e1 e2
    rcases hlt hi with rfl | hi
    · rw [setF_eq] at e1; simp [Value.ownBlock] at e1
    rcases hlt hj with rfl | hj
    · rw [setF_eq] at e2; simp [Value.ownBlock] at e2
    rw [setF_ne _ _ (hne hi)] at e1
    rw [setF_ne _ _ (hne hj)] at e2
    exact h.nodes.sep i j g hi hj e1 e2
  · intro i hi
    rcases hlt hi with rfl | hi
    · rw [setF_eq]; exact hB
    · rw [setF_ne _ _ (hne hi)]; exact h.nodes.base i hi
  · intro i g hi e1
    rcases hlt hi with rfl | hi
    · rw [setF_eq] at e1; simp [Value.ownBlock] at e1
    · rw [setF_ne _ _ (hne hi)] at e1; exact h.osep i g hi e1
  · rw [nptr_setF hI.opnlt]; exact h.opn
  · obtain ⟨es, c, h1, h2⟩ := h.map
    refine ⟨es, c, h1, h2.trans ?_⟩
    apply List.map_congr_left
    intro p hp
    have := hI.namelt p hp
    simp only [nptr, setF_ne ad b (show p.2 ≠ st.ar.length by omega)]

theorem nodeCells_body (ad : Nat → Nat) (wv bv v : Value) (n : Drl.Nd) (l : List Nat) : (nodeCells ad wv bv n).setIfInBounds 4 v = nodeCells ad wv v { n with body := l } := rfl
theorem nodeCells_letter (ad : Nat → Nat) (wv bv : Value) (n : Drl.Nd) (c : UInt8) : (nodeCells ad wv bv n).setIfInBounds 3 (.int .u8 c.toNat) = nodeCells ad wv bv { n with letter := c } := rfl
theorem nodeCells_use (ad : Nat → Nat) (wv bv : Value) (n : Drl.Nd) (u : Option Nat) : (nodeCells ad wv bv n).setIfInBounds 5 (useV ad u) = nodeCells ad wv bv { n with use := u } := rfl

/-- what an append onto a row of pointers leaves of all else -/
theorem RMem.rows {w w1 : World} {B Rb Mb : Nat} {ov : Value} {ad : Nat → Nat} {wv bv : Nat → Value} {st : Drl.RSt} (h : RMem w B Rb Mb ov ad wv bv st) {row : Option Nat} (hg : w.grownBy w1 row)
    (hrow : ∀ g, row = some g → ∃ c fz, w.heap[g]? = some (.cells c 50 fz)) :
    (∀ i, i < st.ar.length → w1.heap[ad i]? = some (.cells (nodeCells ad (wv i) (bv i) (Drl.nd st.ar i)) 62 (0, 0))) ∧ (∀ i, i < st.ar.length → WordsOk w1 (wv i) (Drl.nd st.ar i).ws) ∧
    w1.heap[Rb]? = some (.cells #[ov, .map (some Mb)] 95 (0, 0)) ∧ MapIs w1 Mb ad st.names := by
  have hne : ∀ (b : Nat) (c : Array Value) (e : TypeId) (fz : Nat × Nat), w.heap[b]? = some (.cells c e fz) → e ≠ 50 → row ≠ some b := by
    intro b c e fz hb he e1
    obtain ⟨c', fz', h'⟩ := hrow b e1
    exact ne_of_type hb h' he rfl
  refine ⟨fun i hi => grown_heap hg (h.nodes.node i hi) (hne _ _ _ _ (h.nodes.node i hi) (by decide)), fun i hi => ?_, grown_heap hg h.rd (hne _ _ _ _ h.rd (by decide)), ?_⟩
  · rcases h.nodes.words i hi with h1 | ⟨b, h1, h2⟩
    · exact .inl h1
    · exact .inr ⟨b, h1, grown_heap hg h2 (hne _ _ _ _ h2 (by decide))⟩
  · obtain ⟨es, c, h1, h2⟩ := h.map
    refine ⟨es, c, grown_heap hg h1 (fun e1 => ?_), h2⟩
    obtain ⟨c', fz', h'⟩ := hrow _ e1
    rw [h1] at h'; cases h'

theorem RMem.addBody {w w1 : World} {B Rb Mb : Nat} {ov : Value} {ad : Nat → Nat} {wv bv : Nat → Value} {st : Drl.RSt} (h : RMem w B Rb Mb ov ad wv bv st) (i k : Nat) (hi : i < st.ar.length) (v : Value)
    (hg : w.grownBy w1 (bv i).ownBlock) (hown : w1.ownsRow B 50 1 v ((Drl.nd st.ar i).body.length + 1) ((Drl.nd st.ar i).body.map (nptr ad) ++ [nptr ad k]))
    (g : Nat) (hv : v.ownBlock = some g) (hat : (bv i).ownBlock = some g ∨ w.heap.size ≤ g) :
    RMem (w1.setCell ⟨ad i, 4, none⟩ v) B Rb Mb ov ad wv (setF bv i v) { st with ar := Drl.addTo st.ar i k } ∧ Below B w (w1.setCell ⟨ad i, 4, none⟩ v) := by
  have hrow : ∀ g, (bv i).ownBlock = some g → ∃ c fz, w.heap[g]? = some (.cells c 50 fz) := fun g hg => by
    obtain ⟨c, fz, h1, _⟩ := ownsRow_row (h.nodes.body i hi) g hg
    exact ⟨c, fz, h1⟩
  obtain ⟨n1, w1', r1, m1⟩ := h.rows hg hrow
  have hlt : ∀ {j g}, j < st.ar.length → (bv j).ownBlock = some g → g < w.heap.size := fun hj e => ((h.nodes.body _ hj).lt _ e).2
  have hbody : ∀ j, j < st.ar.length → j ≠ i → w1.ownsRow B 50 1 (bv j) (Drl.nd st.ar j).body.length ((Drl.nd st.ar j).body.map (nptr ad)) := fun j hj hji =>
    (h.nodes.body j hj).kept hg (by
      cases e : (bv j).ownBlock with
      | none => exact .inl rfl
      | some g' => exact .inr fun e2 => hji (h.nodes.sep j i g' hj hi e e2.symm))
  have hopn : w1.ownsRow B 50 1 ov st.opn.length (st.opn.map (nptr ad)) := h.opn.kept hg (by
    cases e : ov.ownBlock with
    | none => exact .inl rfl
    | some g' => exact .inr fun e2 => h.osep i g' hi e2.symm e)
  have hk : Keep (fun b => b = ad i) (fun _ => False) w1 (w1.setCell ⟨ad i, 4, none⟩ v) := (Keep.refl (fun b => b = ad i) (fun _ => False) w1).setCell ⟨ad i, 4, none⟩ rfl v
  have hS : ∀ (b : Nat) (c : Array Value) (e : TypeId) (fz : Nat × Nat), w1.heap[b]? = some (.cells c e fz) → e ≠ 62 → ¬ b = ad i := by
    rintro b c e fz hb he rfl
    exact ne_of_type hb (n1 i hi) he rfl
  refine ⟨⟨⟨?_, ?_, ?_, ?_, ?_, ?_⟩, ?_, hk.cells r1 (hS _ _ _ _ r1 (by decide)) id, ownsRow_keep hopn hk (fun b c fz hb => hS b c _ fz hb (by decide)) id, ?_, h.baseR, h.baseM⟩, ?_⟩
  · intro j hj
    rw [Drl.addTo_len] at hj
    rw [Drl.nd_addTo hj]
    by_cases e : j = i
    · subst e
      rw [if_pos rfl, setF_eq, heap_set (n1 j hj), nodeCells_body]
    · rw [if_neg e, setF_ne _ _ e, heap_set_other (fun e2 => e (h.nodes.inj j i hj hi e2))]; exact n1 j hj
  · intro j hj
    rw [Drl.addTo_len] at hj
    rw [Drl.nd_addTo_ws hj]
    exact (w1' j hj).keep hk (fun b c fz hb => hS b c _ fz hb (by decide)) id
  · intro j hj
    rw [Drl.addTo_len] at hj
    rw [Drl.nd_addTo hj]
    by_cases e : j = i
    · subst e
      rw [if_pos rfl, setF_eq]
      simp only [List.length_append, List.length_singleton, List.map_append, List.map_cons, List.map_nil]
      exact ownsRow_keep hown hk (fun b c fz hb => hS b c _ fz hb (by decide)) id
    · rw [if_neg e, setF_ne _ _ e]
      exact ownsRow_keep (hbody j hj e) hk (fun b c fz hb => hS b c _ fz hb (by decide)) id
  · intro j m hj hm e
    rw [Drl.addTo_len] at hj hm
    exact h.nodes.inj j m hj hm e
  · intro j m g' hj hm e1 e2
    rw [Drl.addTo_len] at hj hm
    by_cases a1 : j = i <;> by_cases a2 : m = i
    · rw [a1, a2]
    · subst a1
      rw [setF_eq, hv] at e1
      rw [setF_ne _ _ a2] at e2
      cases e1
      rcases hat with hat | hat
      · exact h.nodes.sep j m g hj hm hat e2
      · have := hlt hm e2; omega
    · subst a2
      rw [setF_eq, hv] at e2
      rw [setF_ne _ _ a1] at e1
      cases e2
      rcases hat with hat | hat
      · exact h.nodes.sep j m g hj hm e1 hat
      · have := hlt hj e1; omega
    · rw [setF_ne _ _ a1] at e1
      rw [setF_ne _ _ a2] at e2
      exact h.nodes.sep j m g' hj hm e1 e2
  · intro j hj
    rw [Drl.addTo_len] at hj
    exact h.nodes.base j hj
  · intro j g' hj e1
    rw [Drl.addTo_len] at hj
    by_cases a1 : j = i
    · subst a1
      rw [setF_eq, hv] at e1
      cases e1
      rcases hat with hat | hat
      · exact h.osep j g hj hat
      · intro e2; have := (h.opn.lt _ e2).2; omega
    · rw [setF_ne _ _ a1] at e1
      exact h.osep j g' hj e1
  · obtain ⟨es, c, h1, h2⟩ := m1
    exact ⟨es, c, hk.kept _ _ h1 (fun e => by rw [e, n1 i hi] at h1; cases h1) (fun _ _ _ e => by cases e), h2⟩
  · have hB : ∀ g, (bv i).ownBlock = some g → B ≤ g := fun g hg => ((h.nodes.body i hi).lt g hg).1
    have hBi := h.nodes.base i hi
    have hBs : B ≤ w.heap.size := by have := lt_of (h.nodes.node i hi); omega
    exact ((Below.refl B w).grown hg hBs hB).setCell hBi v

theorem RMem.addOpen {w w1 : World} {B Rb Mb : Nat} {ov : Value} {ad : Nat → Nat} {wv bv : Nat → Value} {st : Drl.RSt} (h : RMem w B Rb Mb ov ad wv bv st) (k : Nat) (v : Value)
    (hg : w.grownBy w1 ov.ownBlock) (hown : w1.ownsRow B 50 1 v (st.opn.length + 1) (st.opn.map (nptr ad) ++ [nptr ad k]))
    (g : Nat) (hv : v.ownBlock = some g) (hat : ov.ownBlock = some g ∨ w.heap.size ≤ g) :
    RMem (w1.setCell ⟨Rb, 0, none⟩ v) B Rb Mb v ad wv bv { st with opn := st.opn ++ [k] } ∧ Below B w (w1.setCell ⟨Rb, 0, none⟩ v) := by
  have hrow : ∀ g, ov.ownBlock = some g → ∃ c fz, w.heap[g]? = some (.cells c 50 fz) := fun g hg => by
    obtain ⟨c, fz, h1, _⟩ := ownsRow_row h.opn g hg
    exact ⟨c, fz, h1⟩
  obtain ⟨n1, w1', r1, m1⟩ := h.rows hg hrow
  have hlt : ∀ {j g}, j < st.ar.length → (bv j).ownBlock = some g → g < w.heap.size := fun hj e => ((h.nodes.body _ hj).lt _ e).2
  have hbody : ∀ j, j < st.ar.length → w1.ownsRow B 50 1 (bv j) (Drl.nd st.ar j).body.length ((Drl.nd st.ar j).body.map (nptr ad)) := fun j hj =>
    (h.nodes.body j hj).kept hg (by
      cases e : (bv j).ownBlock with
      | none => exact .inl rfl
      | some g' => exact .inr fun e2 => h.osep j g' hj e e2.symm)
  have hk : Keep (fun b => b = Rb) (fun _ => False) w1 (w1.setCell ⟨Rb, 0, none⟩ v) := (Keep.refl (fun b => b = Rb) (fun _ => False) w1).setCell ⟨Rb, 0, none⟩ rfl v
  have hS : ∀ (b : Nat) (c : Array Value) (e : TypeId) (fz : Nat × Nat), w1.heap[b]? = some (.cells c e fz) → e ≠ 95 → ¬ b = Rb := by
    rintro b c e fz hb he rfl
    exact ne_of_type hb r1 he rfl
  refine ⟨⟨⟨fun j hj => hk.cells (n1 j hj) (hS _ _ _ _ (n1 j hj) (by decide)) id, fun j hj => (w1' j hj).keep hk (fun b c fz hb => hS b c _ fz hb (by decide)) id, fun j hj => ownsRow_keep (hbody j hj) hk (fun b c fz hb => hS b c _ fz hb (by decide)) id, h.nodes.inj, h.nodes.sep, h.nodes.base⟩, ?_, ?_, ?_, ?_, h.baseR, h.baseM⟩, ?_⟩
  · intro j g' hj e1 e2
    rw [hv] at e2
    cases e2
    rcases hat with hat | hat
    · exact h.osep j g hj e1 hat
    · have := hlt hj e1; omega
  · rw [heap_set r1]; rfl
  · simp only [List.length_append, List.length_singleton, List.map_append, List.map_cons, List.map_nil]
    exact ownsRow_keep hown hk (fun b c fz hb => hS b c _ fz hb (by decide)) id
  · obtain ⟨es, c, h1, h2⟩ := m1
    exact ⟨es, c, hk.kept _ _ h1 (fun e => by rw [e, r1] at h1; cases h1) (fun _ _ _ e => by cases e), h2⟩
  · have hB : ∀ g, ov.ownBlock = some g → B ≤ g := fun g hg => (h.opn.lt g hg).1
    have hBs : B ≤ w.heap.size := by have := lt_of h.rd; have := h.baseR; omega
    exact ((Below.refl B w).grown hg hBs hB).setCell h.baseR v

/-- a field of the last node is written -/
theorem RMem.setLast {w : World} {B Rb Mb : Nat} {ov : Value} {ad : Nat → Nat} {wv bv : Nat → Value} {ar : List Drl.Nd} {x : Drl.Nd} {opn : List Nat} {names : List (Drl.Str × Nat)} (h : RMem w B Rb Mb ov ad wv bv ⟨ar ++ [x], opn, names⟩)
    (k : Nat) (v : Value) (x' : Drl.Nd) (hc : ∀ a b, (nodeCells ad a b x).setIfInBounds k v = nodeCells ad a b x') (hw : x'.ws = x.ws) (hb : x'.body = x.body) :
    RMem (w.setCell ⟨ad ar.length, k, none⟩ v) B Rb Mb ov ad wv bv ⟨ar ++ [x'], opn, names⟩ ∧ Below B w (w.setCell ⟨ad ar.length, k, none⟩ v) := by
  have hL : ar.length < (ar ++ [x]).length := by simp
  have hlen : (ar ++ [x']).length = (ar ++ [x]).length := by simp
  have hn := h.nodes.node ar.length hL
  have hk : Keep (fun b => b = ad ar.length) (fun _ => False) w (w.setCell ⟨ad ar.length, k, none⟩ v) := (Keep.refl (fun b => b = ad ar.length) (fun _ => False) w).setCell ⟨ad ar.length, k, none⟩ rfl v
  have hS : ∀ (b : Nat) (c : Array Value) (e : TypeId) (fz : Nat × Nat), w.heap[b]? = some (.cells c e fz) → e ≠ 62 → ¬ b = ad ar.length := by
    rintro b c e fz hb he rfl
    exact ne_of_type hb hn he rfl
  have hnd : ∀ i, i < (ar ++ [x]).length → (i = ar.length ∧ Drl.nd (ar ++ [x']) i = x' ∧ Drl.nd (ar ++ [x]) i = x) ∨ (i < ar.length ∧ Drl.nd (ar ++ [x']) i = Drl.nd ar i ∧ Drl.nd (ar ++ [x]) i = Drl.nd ar i) := fun i hi => by
    by_cases e : i = ar.length
    · subst e; exact .inl ⟨rfl, Drl.nd_last _ _, Drl.nd_last _ _⟩
    · have : i < ar.length := by simp at hi; omega
      exact .inr ⟨this, Drl.nd_append this, Drl.nd_append this⟩
  refine ⟨⟨⟨?_, ?_, ?_, fun i j hi hj => h.nodes.inj i j (by simpa using hi) (by simpa using hj), fun i j g hi hj => h.nodes.sep i j g (by simpa using hi) (by simpa using hj), fun i hi => h.nodes.base i (by simpa using hi)⟩, fun i g hi => h.osep i g (by simpa using hi), hk.cells h.rd (hS _ _ _ _ h.rd (by decide)) id, ownsRow_keep h.opn hk (fun b c fz hb => hS b c _ fz hb (by decide)) id, ?_, h.baseR, h.baseM⟩, ?_⟩
  · intro i hi
    replace hi : i < (ar ++ [x]).length := by simpa using hi
    have hni := h.nodes.node i hi
    rcases hnd i hi with ⟨e, e1, e2⟩ | ⟨e, e1, e2⟩
    · subst e
      rw [e2] at hni
      simp only [e1]
      rw [heap_set hni, hc]
    · rw [e2] at hni
      simp only [e1]
      rw [heap_set_other (fun e3 => by have := h.nodes.inj i ar.length hi hL e3; omega)]; exact hni
  · intro i hi
    replace hi : i < (ar ++ [x]).length := by simpa using hi
    have hni := (h.nodes.words i hi).keep hk (fun b c fz hb => hS b c _ fz hb (by decide)) id
    rcases hnd i hi with ⟨e, e1, e2⟩ | ⟨e, e1, e2⟩
    · simp only [e1, hw]; rw [e2] at hni; exact hni
    · simp only [e1]; rw [e2] at hni; exact hni
  · intro i hi
    replace hi : i < (ar ++ [x]).length := by simpa using hi
    have hni := ownsRow_keep (h.nodes.body i hi) hk (fun b c fz hb => hS b c _ fz hb (by decide)) id
    rcases hnd i hi with ⟨e, e1, e2⟩ | ⟨e, e1, e2⟩
    · simp only [e1, hb]; rw [e2] at hni; exact hni
    · simp only [e1]; rw [e2] at hni; exact hni
  · obtain ⟨es, c, h1, h2⟩ := h.map
    exact ⟨es, c, hk.kept _ _ h1 (fun e => by rw [e, hn] at h1; cases h1) (fun _ _ _ e => by cases e), h2⟩
  · exact (Below.refl B w).setCell (h.nodes.base _ hL) v

/-- the list of what is open loses its last -/
theorem RMem.pop {w : World} {B Rb Mb : Nat} {ad : Nat → Nat} {wv bv : Nat → Value} {st : Drl.RSt} {g n cap : Nat} (h : RMem w B Rb Mb (.slice (some ⟨g, 0, none⟩) n cap) ad wv bv st) (hne : st.opn ≠ []) (hn : n = st.opn.length) :
    RMem (w.setCell ⟨Rb, 0, none⟩ (.slice (some ⟨g, 0, none⟩) (n - 1) cap)) B Rb Mb (.slice (some ⟨g, 0, none⟩) (n - 1) cap) ad wv bv { st with opn := st.opn.dropLast } ∧ Below B w (w.setCell ⟨Rb, 0, none⟩ (.slice (some ⟨g, 0, none⟩) (n - 1) cap)) := by
  have hk : Keep (fun b => b = Rb) (fun _ => False) w (w.setCell ⟨Rb, 0, none⟩ (.slice (some ⟨g, 0, none⟩) (n - 1) cap)) := (Keep.refl (fun b => b = Rb) (fun _ => False) w).setCell ⟨Rb, 0, none⟩ rfl _
  have hS : ∀ (b : Nat) (c : Array Value) (e : TypeId) (fz : Nat × Nat), w.heap[b]? = some (.cells c e fz) → e ≠ 95 → ¬ b = Rb := by
    rintro b c e fz hb he rfl
    exact ne_of_type hb h.rd he rfl
  have hpop : w.ownsRow B 50 1 (.slice (some ⟨g, 0, none⟩) (n - 1) cap) st.opn.dropLast.length (st.opn.dropLast.map (nptr ad)) := by
    obtain ⟨h1, h2⟩ := h.opn
    refine ⟨by simp, ?_⟩
    rcases h2 with ⟨h3, _⟩ | ⟨g', cap', cur, hv, hb, hh, hnc, hcm, hcs, htk⟩
    · cases h3
    · cases hv
      refine .inr ⟨g, cap, cur, by rw [List.length_dropLast, hn], hb, hh, by rw [List.length_dropLast]; omega, hcm, hcs, ?_⟩
      have hsz : cur.toList.length = cap := by simpa using hcs
      rw [List.map_dropLast, ← htk, List.length_dropLast, List.dropLast_eq_take, List.length_take, List.take_take, hsz]
      congr 1
      omega
  refine ⟨⟨⟨fun j hj => hk.cells (h.nodes.node j hj) (hS _ _ _ _ (h.nodes.node j hj) (by decide)) id, fun j hj => (h.nodes.words j hj).keep hk (fun b c fz hb => hS b c _ fz hb (by decide)) id, fun j hj => ownsRow_keep (h.nodes.body j hj) hk (fun b c fz hb => hS b c _ fz hb (by decide)) id, h.nodes.inj, h.nodes.sep, h.nodes.base⟩, h.osep, ?_, ownsRow_keep hpop hk (fun b c fz hb => hS b c _ fz hb (by decide)) id, ?_, h.baseR, h.baseM⟩, (Below.refl B w).setCell h.baseR _⟩
  · rw [heap_set h.rd]; rfl
  · obtain ⟨es, c, h1, h2⟩ := h.map
    exact ⟨es, c, hk.kept _ _ h1 (fun e => by rw [e, h.rd] at h1; cases h1) (fun _ _ _ e => by cases e), h2⟩

/-- a name is put -/
theorem RMem.name {w : World} {B Rb Mb : Nat} {ov : Value} {ad : Nat → Nat} {wv bv : Nat → Value} {st : Drl.RSt} (h : RMem w B Rb Mb ov ad wv bv st) (s : ByteArray) (i : Nat) (hn : Drl.look st.names s.data.toList = none) :
    ∃ w', (Instr.mapUpdate 93 (.map (some Mb)) (.string s) (nptr ad i)).run Tryz.prog w = .ok () w' ∧ RMem w' B Rb Mb ov ad wv bv { st with names := st.names ++ [(s.data.toList, i)] } ∧ Below B w w' := by
  obtain ⟨w', h1, h2, o, ho⟩ := update_names h.map s i hn
  obtain ⟨es, c, hM, _⟩ := h.map
  have hk : Keep (fun b => b = Mb) (fun _ => False) w w' := by
    subst ho
    exact ⟨rfl, rfl, rfl, by simp, fun k x hx hne _ => by rw [(MapKept.heap_set hM).2 k hne]; exact hx⟩
  have hS : ∀ (b : Nat) (c : Array Value) (e : TypeId) (fz : Nat × Nat), w.heap[b]? = some (.cells c e fz) → ¬ b = Mb := by
    rintro b c e fz hb rfl
    rw [hM] at hb; cases hb
  refine ⟨w', h1, ⟨h.nodes.keep hk (fun b c e fz hb _ => hS b c e fz hb) id id id, h.osep, hk.cells h.rd (hS _ _ _ _ h.rd) id, ownsRow_keep h.opn hk (fun b c fz hb => hS b c _ fz hb) id, h2, h.baseR, h.baseM⟩, ?_⟩
  subst ho
  exact ⟨rfl, rfl, rfl, by simp, fun k hk => (MapKept.heap_set hM).2 k (by have := h.baseM; omega)⟩
end Go.Proofs.YtfbmlnkgjgnnhaaGreatDoor
