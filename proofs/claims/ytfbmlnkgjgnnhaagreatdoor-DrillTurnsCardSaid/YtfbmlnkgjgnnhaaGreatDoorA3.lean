import Derived.Test.YtfbmlnkgjgnnhaaGreatDoorA2
import Derived.Test.YtfbmlnkgjgnnhaaGreatDoorShelf
import Derived.Lib.SmallJoins
import Derived.Lib.AppendIntMem
import Derived.Lib.AtoiErrMem
namespace Go.Proofs.YtfbmlnkgjgnnhaaGreatDoor
open Go.RowKit

/-- what of the library's own variables the calls read -/
structure Env (w : World) : Prop where
  size : 10 ≤ w.heap.size
  maxLen : ∃ m, w.cell? ⟨3, 0, none⟩ = some (.int .i64 m)
  tab : Lib.TabIs Tryz.prog w "internal/strconv.uint64pow10" .u64 Lib.pow10Tab

theorem glob_lt : Tryz.prog.globalNamed "internal/strconv.uint64pow10" = some 6 := by kernel_rfl

theorem Env.keep {w w' : World} (h : Env w) (hs : w.heap.size ≤ w'.heap.size) (hk : ∀ k, k < 10 → w'.heap[k]? = w.heap[k]?) : Env w' := by
  refine ⟨Nat.le_trans h.size hs, ?_, ?_⟩
  · obtain ⟨m, hm⟩ := h.maxLen
    exact ⟨m, by rw [World.cell?_of_block (w := w) (hk 3 (by decide))]; exact hm⟩
  · have := h.tab
    unfold Lib.TabIs World.var? at this ⊢
    rw [glob_lt] at this ⊢
    simp only [Option.bind_some] at this ⊢
    rw [hk 6 (by decide)]
    exact this

theorem Env.below {B : Nat} {w w' : World} (h : Env w) (hb : Below B w w') (hB : 10 ≤ B) : Env w' := h.keep hb.size fun k hk => hb.block k (by omega)
theorem Env.next {w w' : World} (h : Env w) (hb : Below w.heap.size w w') : Env w' := h.below hb h.size

theorem ret_at {v v' : Value} (h : v = v') : Ending.returned v = .returned v' := by rw [h]

theorem atoi_ok (s : ByteArray) (h : Drl.numOk s.data.toList = true) (w : World) :
    Calls Tryz.prog 62 #[.string s] w fun e w' => e = .returned (.tuple #[.int .i64 (Drl.numVal s.data.toList), .nilIface]) ∧ Below w.heap.size w w' := by
  have hl : s.size ≤ 18 := by
    have := h
    simp only [Drl.numOk, Bool.and_eq_true, decide_eq_true_eq, size_len] at this
    omega
  refine (Tryz.strconv_Atoi s _ hl (Drl.atoi_numOk _ h) w).mono ?_
  rintro e w' ⟨rfl, t, rfl⟩
  exact ⟨rfl, Lib.bytesWorld_below w 5 t⟩

theorem itoa_ok (n : Int) (h0 : 0 ≤ n) (hn : n ≤ 9223372036854775807) (w : World) (hE : Env w) :
    Calls Tryz.prog 56 #[.int .i64 n] w fun e w' => e = .returned (.string ⟨(Lib.decDigits n.toNat).toArray⟩) ∧ Below w.heap.size w w' := by
  refine (Tryz.strconv_Itoa n (by omega) (by omega) w hE.tab).mono ?_
  rintro e w' ⟨rfl, k, os, rfl⟩
  refine ⟨?_, Lib.below_grow _ w (Nat.le_refl _) k os⟩
  unfold Lib.itoa
  rw [if_neg (by omega)]

/-! ### number -/
theorem numOk_short (s : ByteArray) (h : s.size < 1 ∨ 6 < s.size) : Drl.numOk s.data.toList = false := by
  rw [Bool.eq_false_iff]
  intro e
  simp only [Drl.numOk, Bool.and_eq_true, decide_eq_true_eq, size_len] at e
  omega
theorem head_get (s : ByteArray) (h : 0 < s.size) : s.data.toList.headD 0 = s[0]'h := by
  have := get_list s 0 h
  cases hs : s.data.toList with
  | nil => have e := size_len s; rw [hs] at e; simp at e; omega
  | cons a t => simp only [hs, List.getElem_cons_zero] at this; simpa using this
theorem numOk_zero (s : ByteArray) (h : 1 < s.size) (h0 : ((s[0]'(by omega)).toNat : Int) = 48) : Drl.numOk s.data.toList = false := by
  rw [Bool.eq_false_iff]
  intro e
  simp only [Drl.numOk, Bool.and_eq_true, decide_eq_true_eq, size_len, head_get s (by omega), Bool.not_eq_true', Bool.and_eq_false_iff, decide_eq_false_iff_not] at e
  omega
theorem numOk_bad (s : ByteArray) (k : Nat) (h : k < s.size) (hc : Drl.isDig (s[k]'h) = false) : Drl.numOk s.data.toList = false := by
  have : s.data.toList.all Drl.isDig = false := by
    rw [List.all_eq_false]
    refine ⟨s[k], ?_, by rw [hc]; simp⟩
    rw [← get_list s k h]; exact List.getElem_mem _
  simp [Drl.numOk, this]
theorem numOk_all (s : ByteArray) (h1 : 1 ≤ s.size) (h6 : s.size ≤ 6) (h0 : 1 < s.size → ((s[0]'h1).toNat : Int) ≠ 48) (h : ∀ j (hj : j < s.size), Drl.isDig (s[j]'hj) = true) : Drl.numOk s.data.toList = true := by
  have : s.data.toList.all Drl.isDig = true := by
    rw [List.all_eq_true]
    intro x hx
    obtain ⟨j, hj, rfl⟩ := List.getElem_of_mem hx
    have hj' : j < s.size := by rw [size_len] at hj; exact hj
    rw [get_list s j hj']; exact h j hj'
  simp only [Drl.numOk, this, Bool.and_true, Bool.and_eq_true, decide_eq_true_eq, size_len, head_get s h1, Bool.not_eq_true', Bool.and_eq_false_iff, decide_eq_false_iff_not]
  refine ⟨⟨h1, h6⟩, ?_⟩
  by_cases e : 1 < s.size
  · right; have := h0 e; omega
  · left; exact e

theorem ret_number {a b : Int} {c d : Bool} (h : a = b) (k : c = d) : Ending.returned (.tuple #[.int .i64 a, .bool c]) = .returned (.tuple #[.int .i64 b, .bool d]) := by rw [h, k]
theorem numN_no {l : List UInt8} (h : Drl.numOk l = false) : (0 : Int) = Drl.numN l := by simp [Drl.numN, h]
theorem numB_no {l : List UInt8} (h : Drl.numOk l = false) (m : Int) : false = Drl.numB l m := by simp [Drl.numB, h]
theorem numN_ok {l : List UInt8} (h : Drl.numOk l = true) : (Drl.numVal l : Int) = Drl.numN l := by simp [Drl.numN, h]
theorem numB_ok {l : List UInt8} (h : Drl.numOk l = true) (m : Int) : decide ((Drl.numVal l : Int) ≤ m) = Drl.numB l m := by simp [Drl.numB, h]

theorem number_any (s : ByteArray) (m : Int) (w : World) :
    Calls Tryz.prog 36 #[.string s, .int .i64 m] w fun r w' => r = .returned (.tuple #[.int .i64 (Drl.numN s.data.toList), .bool (Drl.numB s.data.toList m)]) ∧ Below w.heap.size w w' := by
  by_cases hs1 : s.size < 1
  · have H := Lib.hid (numOk_short s (.inl hs1))
    go_enter Tryz.func36, Tryz.ntmps36
    go_wp2_with fail
    go_ret2
    exact ⟨ret_number (numN_no H.out) (numB_no H.out _), Below.refl _ _⟩
  by_cases hs6 : 6 < s.size
  · have H := Lib.hid (numOk_short s (.inr hs6))
    go_enter Tryz.func36, Tryz.ntmps36
    go_wp2_with fail
    go_ret2
    exact ⟨ret_number (numN_no H.out) (numB_no H.out _), Below.refl _ _⟩
  have h0s : 0 < s.size := by omega
  by_cases hz : 1 < s.size ∧ ((s[0]'h0s).toNat : Int) = 48
  · obtain ⟨hz1, hz0⟩ := hz
    have H := Lib.hid (numOk_zero s hz1 hz0)
    go_enter Tryz.func36, Tryz.ntmps36
    go_wp2_with fail
    go_ret2
    exact ⟨ret_number (numN_no H.out) (numB_no H.out _), Below.refl _ _⟩
  have hz' : 1 < s.size → ((s[0]'h0s).toNat : Int) ≠ 48 := fun h e => hz ⟨h, e⟩
  have HZ := Lib.hid hz'
  clear hz
  have hcase : (¬ 1 < s.size) ∨ (1 < s.size ∧ (((s[0]'h0s).toNat : Int) == 48) = false) := by
    by_cases h : 1 < s.size
    · exact .inr ⟨h, by simpa using hz' h⟩
    · exact .inl h
  clear hz'
  rcases hcase with h1 | ⟨h1, h48⟩
  all_goals
    go_enter Tryz.func36, Tryz.ntmps36
    go_wp2_with fail
    go_loopw [] (fun wr => ∃ k : Nat, k ≤ s.size ∧ wr.heap[w.heap.size]? = some (.stringIter s k) ∧ Below w.heap.size w wr ∧ ∀ j (hj : j < s.size), j < k → Drl.isDig (s[j]'hj) = true) (fun wr => s.size - wr.iterPos w.heap.size)
    case atStart =>
      exact ⟨0, by omega, World.iter_heap w s 0, (Below.refl _ w).alloc (Nat.le_refl _) _, fun _ _ h => by omega⟩
    case round =>
      obtain ⟨k, hk, hit, hbw, hall⟩ := hrel
      by_cases hp : k < s.size
      · have hnx : ∀ ty, (Instr.next (.pointer (some ⟨w.heap.size, 0, none⟩)) true ty).run Tryz.prog wr = _ := fun ty => Lib.run_next_any_at wr w.heap.size s k ty hit hp
        have hbw2 := Lib.below_iterAt hbw (k := w.heap.size) (by omega) s (k + (Utf8.decode s k).2)
        have hit2 := Lib.iterAt_heap wr w.heap.size s k (k + (Utf8.decode s k).2) hit
        have hle := decode_le s k
        have HA := Lib.hid hall
        clear hall
        by_cases hlo : ((Utf8.decode s k).1 : Int) < 48
        · have hfin := numOk_bad s k hp (by rcases decode_cases s k hp with ⟨h1, h2⟩ | ⟨h1, h2⟩ <;> simp only [Drl.isDig] <;> simp_all <;> omega)
          have HF := Lib.hid hfin
          clear hfin
          go_wp2_with fail
          go_ret2
          exact ⟨ret_number (numN_no HF.out) (numB_no HF.out _), hbw2⟩
        · by_cases hhi : 57 < ((Utf8.decode s k).1 : Int)
          · have hfin := numOk_bad s k hp (by rcases decode_cases s k hp with ⟨h1, h2⟩ | ⟨h1, h2⟩ <;> simp only [Drl.isDig] <;> simp_all <;> omega)
            have HF := Lib.hid hfin
            clear hfin
            go_wp2_with fail
            go_ret2
            exact ⟨ret_number (numN_no HF.out) (numB_no HF.out _), hbw2⟩
          · have h1 : Utf8.decode s k = ((s[k]'hp).toNat, 1) := by
              rcases decode_cases s k hp with ⟨h1, h2⟩ | ⟨h1, h2⟩
              · exact h1
              · omega
            have hl : Drl.isDig (s[k]'hp) = true := by rw [h1] at hlo hhi; simp only [Drl.isDig]; simp; omega
            have H1 := Lib.hid h1
            clear h1
            go_wp2_with fail
            go_roundw
            case rel =>
              rw [H1.out] at hit2 hbw2 ⊢
              refine ⟨k + 1, by omega, hit2, hbw2, fun j hj hjk => ?_⟩
              by_cases e : j = k
              · subst e; exact hl
              · exact HA.out j hj (by omega)
            case measure =>
              rw [H1.out] at hit2 ⊢
              simp only [World.iterPos, hit2, hit]
              omega
      · have hnx : ∀ ty, (Instr.next (.pointer (some ⟨w.heap.size, 0, none⟩)) true ty).run Tryz.prog wr = _ := fun ty => Lib.run_next_end_at wr w.heap.size s k ty hit hp
        have hOk := numOk_all s (by omega) (by omega) HZ.out (fun j hj => hall j hj (by omega))
        have HO := Lib.hid hOk
        clear hall hOk
        go_wp2_with (go_at_call 62; refine (atoi_ok s HO.out _).mono ?_)
        rintro e w2 ⟨rfl, hb2⟩
        go_wp2_with fail
        go_ret2
        exact ⟨ret_number (numN_ok HO.out) (numB_ok HO.out _), hbw.trans (hb2.mono hbw.size)⟩
end Go.Proofs.YtfbmlnkgjgnnhaaGreatDoor
