import Derived.Test.YtfbmlnkgjgnnhaaGreatDoorA17
namespace Go.Proofs.YtfbmlnkgjgnnhaaGreatDoor
open Go.RowKit

set_option maxRecDepth 100000
set_option maxHeartbeats 1000000

theorem toList_mk (l : List UInt8) : (⟨l.toArray⟩ : ByteArray).data.toList = l := rfl

theorem count_ok (v : Drl.Nums) (V : Nat) (s : ByteArray) (w : World) (hE : Env w) (hN : NumsAt w V v) (hv : ∀ c, v c ≤ 999999) (hs : s.size ≤ 65536) (n : Int) (hn : Drl.cnt v s.data.toList = some n) :
    Calls Tryz.prog 39 #[.pointer (some ⟨V, 0, none⟩), .string s] w fun e w' => e = .returned (.int .i64 n) ∧ Below w.heap.size w w' := by
  have hok : Drl.numOk (Drl.filled v s.data.toList) = true := by
    unfold Drl.cnt at hn
    split at hn
    · assumption
    · cases hn
  have hnv : (Drl.numVal (Drl.filled v s.data.toList) : Int) = n := by
    unfold Drl.cnt at hn
    rw [if_pos hok] at hn
    exact Option.some.inj hn
  go_enter Tryz.func39, Tryz.ntmps39
  go_wp2_with fail
  refine (filled_any v V s w hE hN hv hs).mono ?_
  rintro e w1 ⟨rfl, hb1⟩
  go_wp2_with fail
  refine (atoi_ok ⟨(Drl.filled v s.data.toList).toArray⟩ (by rw [toList_mk]; exact hok) w1).mono ?_
  rintro e w2 ⟨rfl, hb2⟩
  rw [toList_mk, hnv]
  have hb := hb1.trans (hb2.mono hb1.size)
  clear hb1 hb2 hn hok hnv
  go_wp2_with fail
  go_ret
  exact ⟨rfl, hb⟩

theorem cnt_le {v : Drl.Nums} {s : Drl.Str} {n : Int} (h : Drl.cnt v s = some n) : 0 ≤ n ∧ n ≤ 999999 := by
  unfold Drl.cnt at h
  split at h
  · next hok =>
    have := Drl.numVal_lt _ hok
    have := Option.some.inj h
    omega
  · cases h

theorem first_ok (n : Int) (h0 : 0 ≤ n) (hn : n ≤ 999999) (w : World) (hE : Env w) :
    Calls Tryz.prog 29 #[.int .i64 n] w fun e w' => e = .returned (.string ⟨(Drl.wClients ++ 32 :: Lib.decDigits n.toNat).toArray⟩) ∧ Below w.heap.size w w' := by
  go_enter Tryz.func29, Tryz.ntmps29
  go_wp2_with fail
  refine (itoa_ok n h0 (by omega) w hE).mono ?_
  rintro e w1 ⟨rfl, hb1⟩
  have hlen := Drl.decDigits_len 5 n.toNat (by omega)
  have hx : ¬ 9223372036854775807 < 8 + (Lib.decDigits n.toNat).length := by omega
  go_wp2_with fail
  go_ret
  exact ⟨rfl, hb1⟩

/-! ### the runner -/
def stepCells (l : List Drl.Dr) : List Value := l.flatMap fun x => [.int .i64 x.line, strV x.text, .bool x.want]
structure RunAt (w : World) (B R : Nat) (sv : Value) (st : Drl.PSt) : Prop where
  at_ : w.heap[R]? = some (.cells #[sv, .bool st.said, .int .i64 st.turns] 55 (0, 0))
  row : w.ownsRow B 37 3 sv st.steps.length (stepCells st.steps)
  base : B ≤ R
  turns : st.turns ≤ 65536
  steps : st.steps.length ≤ 4096

/-- what going through leaves of all else -/
structure Left (B R : Nat) (w w' : World) : Prop where
  keep : Keep (fun k => k = R) (fun e => e = 37) w w'
  below : Below B w w'
theorem Left.refl (B R : Nat) (w : World) : Left B R w w := ⟨Keep.refl _ _ w, Below.refl B w⟩
theorem Left.trans {B R : Nat} {a b c : World} (h : Left B R a b) (k : Left B R b c) : Left B R a c := ⟨h.keep.trans k.keep, h.below.trans k.below⟩
theorem Left.next {B R : Nat} {a b c : World} (h : Left B R a b) (hB : B ≤ a.heap.size) (k : Below b.heap.size b c) : Left B R a c := ⟨h.keep.next k, h.below.trans (k.mono (Nat.le_trans hB h.below.size))⟩
theorem RunAt.next {w w' : World} {B R : Nat} {sv : Value} {st : Drl.PSt} (h : RunAt w B R sv st) (hb : Below w.heap.size w w') : RunAt w' B R sv st := by
  have hk : Keep (fun _ => False) (fun _ => False) w w' := .of_next hb
  exact ⟨hk.cells h.at_ id id, ownsRow_keep h.row hk (fun _ _ _ _ => id) id, h.base, h.turns, h.steps⟩
theorem RunAt.drew {w : World} {B R : Nat} {sv : Value} {st : Drl.PSt} (h : RunAt w B R sv st) : RunAt w.drew B R sv st := h.next (below_drew (Below.refl _ w))

/-- what is answered, and the runner behind it -/
def PlayPost (w : World) (B R : Nat) (r : Except Drl.Err Drl.PSt) (e : Ending) (w' : World) : Prop :=
  Left B R w w' ∧ match r with
    | .error x => ∃ v, e = .returned v ∧ ErrAt w' v x.1 x.2
    | .ok st => e = .returned .nilIface ∧ ∃ sv, RunAt w' B R sv st

theorem turn_ok (w : World) (B R N : Nat) (sv : Value) (st : Drl.PSt) (h : RunAt w B R sv st) (at_ : Nat) (hN : w.cell? ⟨N, 0, none⟩ = some (.int .i64 at_)) :
    Calls Tryz.prog 67 #[.pointer (some ⟨R, 0, none⟩), .pointer (some ⟨N, 0, none⟩)] w (PlayPost w B R (Drl.turn at_ st)) := by
  have ht := h.turns
  have c2 : w.cell? ⟨R, 2, none⟩ = some (.int .i64 st.turns) := cell_of h.at_ rfl
  have z2 : w.frozen? ⟨R, 2, none⟩ = false := free_of h.at_ 2
  have hBs : B ≤ w.heap.size := by have := lt_of h.at_; have := h.base; omega
  by_cases e : st.turns = 65536
  · have e1 : ((st.turns : Int) == 65536) = true := by rw [e]; rfl
    have HE := Lib.hid e
    clear e
    go_enter Tryz.func67, Tryz.ntmps67
    go_wp2_with fail
    refine (wrap_any _ _ _).mono ?_
    rintro e w' ⟨rfl, rfl⟩
    go_wp2_with fail
    go_ret
    have hr : Drl.turn at_ st = .error (at_, 294) := by simp [Drl.turn, HE.out]
    rw [hr]
    exact ⟨(Left.refl B R w).next hBs ((Below.refl _ _).alloc (Nat.le_refl _) _), _, rfl, _, rfl, heap_new _ _⟩
  · have e1 : ((st.turns : Int) == 65536) = false := by simp; omega
    have HE := Lib.hid e
    have H := Lib.hid h
    clear h
    go_enter Tryz.func67, Tryz.ntmps67
    go_wp2_with fail
    go_ret
    have hr : Drl.turn at_ st = .ok { st with turns := st.turns + 1 } := by simp [Drl.turn, HE.out]
    rw [hr]
    have hk : Keep (fun k => k = R) (fun e => e = 37) w (w.setCell ⟨R, 2, none⟩ (.int .i64 ((st.turns : Int) + 1))) := (Keep.refl (fun k => k = R) (fun e => e = 37) w).setCell ⟨R, 2, none⟩ rfl _
    refine ⟨⟨hk, (Below.refl B w).setCell H.out.base _⟩, rfl, sv, ?_, ?_, H.out.base, by dsimp only; have := HE.out; omega, H.out.steps⟩
    · rw [heap_set H.out.at_]; simp
    · have hk' : Keep (fun k => k = R) (fun _ => False) w (w.setCell ⟨R, 2, none⟩ (.int .i64 ((st.turns : Int) + 1))) := (Keep.refl (fun k => k = R) (fun _ => False) w).setCell ⟨R, 2, none⟩ rfl _
      exact ownsRow_keep H.out.row hk' (fun b c fz hb e => by subst e; exact ne_of_type hb H.out.at_ (by decide) rfl) id
end Go.Proofs.YtfbmlnkgjgnnhaaGreatDoor
