import Derived.Test.YtfbmlnkgjgnnhaaGreatDoorProg
import Derived.Test.YtfbmlnkgjgnnhaaGreatDoorJP0
import Derived.WalkKit
import Derived.KernelRfl
import Derived.Deep.QuietTactic
import Derived.BigQuiet
import Derived.Lib.Hide
import Derived.Lib.OthersKept
import Derived.Lib.FrozenHead2
import Derived.Lib.Builder
import Derived.Test.YtfbmlnkgjgnnhaaGreatDoorShelf
import Derived.Lib.SmallJoins
import Derived.Lib.AppendIntMem
import Derived.Lib.AtoiErrMem

section
namespace Go.Proofs.YtfbmlnkgjgnnhaaGreatDoor
open Go.RowKit

theorem ret_bool {a b : Bool} (h : a = b) : Ending.returned (.bool a) = .returned (.bool b) := by rw [h]
theorem ret_int {k : IntKind} {a b : Int} (h : a = b) : Ending.returned (.int k a) = .returned (.int k b) := by rw [h]

theorem wrap_any (at_ e : Int) (w : World) :
    Calls Tryz.prog 18 #[.int .i64 at_, .int .i64 e] w fun r w' => r = .returned (.iface 76 (.pointer (some ⟨w.heap.size, 0, none⟩))) ∧ w' = w.alloc (.cells #[.int .i64 at_, .iface 33 (.int .i64 e)] 79) := by
  go_enter Tryz.func18, Tryz.ntmps18
  go_wp2
  go_ret
  exact ⟨rfl, rfl⟩

theorem size_len (s : ByteArray) : s.data.toList.length = s.size := by simp
theorem get_list (s : ByteArray) (i : Nat) (h : i < s.size) : s.data.toList[i]'(by rw [size_len]; exact h) = s[i] := by simp; rfl

theorem letterB_eq (s : ByteArray) : Drl.letterB s.data.toList = if h : s.size = 1 then decide (97 ≤ ((s[0]'(by omega)).toNat : Int)) && decide (((s[0]'(by omega)).toNat : Int) ≤ 122) else false := by
  split
  · rename_i h
    have e : s.data.toList = [s[0]'(by omega)] := by
      apply List.ext_getElem
      · rw [size_len]; simpa using h
      · intro i h1 h2
        have : i = 0 := by simp at h2; omega
        subst this
        rw [get_list]; rfl
    rw [e]
    simp only [Drl.letterB, Drl.isLet]
    congr 1 <;> (congr 1; simp only [eq_iff_iff]; omega)
  · rename_i h
    match hs : s.data.toList with
    | [] => rfl
    | [c] => exact absurd (by rw [← size_len, hs]; rfl) h
    | _ :: _ :: _ => rfl

theorem letter_any (s : ByteArray) (w : World) :
    Calls Tryz.prog 65 #[.string s] w fun r w' => r = .returned (.bool (Drl.letterB s.data.toList)) ∧ w = w' := by
  rw [letterB_eq]
  by_cases h : s.size = 1
  · rw [dif_pos h]
    have h0 : 0 < s.size := by omega
    by_cases h1 : 97 ≤ ((s[0]'h0).toNat : Int)
    all_goals
      go_enter Tryz.func65, Tryz.ntmps65
      go_wp2
      go_ret
      exact ⟨ret_bool (by simp; omega), rfl⟩
  · rw [dif_neg h]
    go_enter Tryz.func65, Tryz.ntmps65
    go_wp2
    go_ret
    exact ⟨rfl, rfl⟩


theorem toList_data (s : ByteArray) : s.toList = s.data.toList := ByteArray.toList_eq s
theorem toList_nil {s : ByteArray} (h : s.size = 0) : s.toList = [] := by
  rw [toList_data]; exact List.eq_nil_of_length_eq_zero (by rw [size_len]; exact h)
theorem toList_some {s : ByteArray} (h : 0 < s.size) : (!s.toList.isEmpty) = true := by
  rw [toList_data]
  have := size_len s
  cases hs : s.data.toList with
  | nil => rw [hs] at this; simp at this; omega
  | cons _ _ => rfl

theorem width_pos (s : ByteArray) (pos : Nat) (h : pos < s.size) : 1 ≤ (Utf8.decode s pos).2 := by
  by_cases ha : (s[pos]'h).toNat < 128
  · rw [decode_ascii s pos h ha]
    exact Nat.le_refl _
  · exact (decode_high s pos h (by omega)).2

/-- the rune at a place is below 128 just if the byte is, and then it is the byte -/
theorem decode_cases (s : ByteArray) (pos : Nat) (h : pos < s.size) : (Utf8.decode s pos = ((s[pos]'h).toNat, 1) ∧ (s[pos]'h).toNat < 128) ∨ (128 ≤ (Utf8.decode s pos).1 ∧ 128 ≤ (s[pos]'h).toNat) := by
  by_cases ha : (s[pos]'h).toNat < 128
  · exact .inl ⟨decode_ascii s pos h ha, ha⟩
  · exact .inr ⟨(decode_high s pos h (by omega)).1, by omega⟩

theorem namedB_false (s : ByteArray) (k : Nat) (h : k < s.size) (hc : Drl.isLet (s[k]'h) = false) : Drl.namedB s.data.toList = false := by
  have : s.data.toList.all Drl.isLet = false := by
    rw [List.all_eq_false]
    refine ⟨s[k], ?_, by rw [hc]; simp⟩
    rw [← get_list s k h]; exact List.getElem_mem _
  simp [Drl.namedB, this]
theorem namedB_all (s : ByteArray) (h : ∀ j (hj : j < s.size), Drl.isLet (s[j]'hj) = true) : Drl.namedB s.data.toList = (decide (1 ≤ s.size) && decide (s.size ≤ 12)) := by
  have : s.data.toList.all Drl.isLet = true := by
    rw [List.all_eq_true]
    intro x hx
    obtain ⟨j, hj, rfl⟩ := List.getElem_of_mem hx
    have hj' : j < s.size := by rw [size_len] at hj; exact hj
    rw [get_list s j hj']; exact h j hj'
  simp only [Drl.namedB, this, size_len, Bool.true_and]

theorem named_any (s : ByteArray) (w : World) (hs : s.size ≤ 4294967296) :
    Calls Tryz.prog 63 #[.string s] w fun r w' => r = .returned (.bool (Drl.namedB s.data.toList)) ∧ Below w.heap.size w w' := by
  go_enter Tryz.func63, Tryz.ntmps63
  go_wp2
  go_loopw [] (fun wr => ∃ k : Nat, k ≤ s.size ∧ wr.heap[w.heap.size]? = some (.stringIter s k) ∧ Below w.heap.size w wr ∧ ∀ j (hj : j < s.size), j < k → Drl.isLet (s[j]'hj) = true) (fun wr => s.size - wr.iterPos w.heap.size)
  case atStart =>
    exact ⟨0, by omega, World.iter_heap w s 0, (Below.refl _ w).alloc (Nat.le_refl _) _, fun _ _ h => by omega⟩
  case round =>
    obtain ⟨k, hk, hit, hbw, hall⟩ := hrel
    by_cases hp : k < s.size
    · have hnx : ∀ ty, (Instr.next (.pointer (some ⟨w.heap.size, 0, none⟩)) true ty).run Tryz.prog wr = _ := fun ty => Lib.run_next_any_at wr w.heap.size s k ty hit hp
      have hbw2 := Lib.below_iterAt hbw (k := w.heap.size) (by omega) s (k + (Utf8.decode s k).2)
      have hit2 := Lib.iterAt_heap wr w.heap.size s k (k + (Utf8.decode s k).2) hit
      have hle := decode_le s k
      have HA := Lib.hid hall
      clear hall
      by_cases hlo : ((Utf8.decode s k).1 : Int) < 97
      · have hfin := namedB_false s k hp (by rcases decode_cases s k hp with ⟨h1, h2⟩ | ⟨h1, h2⟩ <;> simp only [Drl.isLet] <;> simp_all <;> omega)
        have HF := Lib.hid hfin
        clear hfin
        go_wp2
        go_ret
        exact ⟨ret_bool HF.out.symm, hbw2⟩
      · by_cases hhi : 122 < ((Utf8.decode s k).1 : Int)
        · have hfin := namedB_false s k hp (by rcases decode_cases s k hp with ⟨h1, h2⟩ | ⟨h1, h2⟩ <;> simp only [Drl.isLet] <;> simp_all <;> omega)
          have HF := Lib.hid hfin
          clear hfin
          go_wp2
          go_ret
          exact ⟨ret_bool HF.out.symm, hbw2⟩
        · have h1 : Utf8.decode s k = ((s[k]'hp).toNat, 1) := by
            rcases decode_cases s k hp with ⟨h1, h2⟩ | ⟨h1, h2⟩
            · exact h1
            · omega
          have hl : Drl.isLet (s[k]'hp) = true := by rw [h1] at hlo hhi; simp only [Drl.isLet]; simp; omega
          have H1 := Lib.hid h1
          clear h1
          go_wp2
          go_roundw
          case rel =>
            rw [H1.out] at hit2 hbw2 ⊢
            refine ⟨k + 1, by omega, hit2, hbw2, fun j hj hjk => ?_⟩
            by_cases e : j = k
            · subst e; exact hl
            · exact HA.out j hj (by omega)
          case measure =>
            rw [H1.out] at hit2 ⊢
            simp only [World.iterPos, hit2, hit]
            omega
    · have hnx : ∀ ty, (Instr.next (.pointer (some ⟨w.heap.size, 0, none⟩)) true ty).run Tryz.prog wr = _ := fun ty => Lib.run_next_end_at wr w.heap.size s k ty hit hp
      have hfin := Lib.hid (namedB_all s (fun j hj => hall j hj (by omega)))
      clear hall
      by_cases h0 : s.size = 0
      · have e := toList_nil h0
        go_wp2
        go_ret
        exact ⟨ret_bool (by rw [hfin.out]; simp; omega), hbw⟩
      · have e := toList_some (s := s) (by omega)
        go_wp2
        go_ret
        exact ⟨ret_bool (by rw [hfin.out, decide_eq_true (show 1 ≤ s.size by omega), Bool.true_and]; exact decide_eq_decide.2 (by omega)), hbw⟩
end Go.Proofs.YtfbmlnkgjgnnhaaGreatDoor
end

section
namespace Go.Proofs.YtfbmlnkgjgnnhaaGreatDoor
open Go.RowKit

theorem infoByte : (Tryz.prog.info? 5).map (fun i => (i.zero, i.size, i.bytes)) = some (some (.int .u8 0), 1, 1) := by kernel_rfl
theorem sizeBuilder : (Tryz.prog.info? 83).map (·.size) = some 2 := by kernel_rfl
theorem liesBuilder : liesAt Tryz.prog Tryz.prog.depth 83 (2 / Tryz.prog.cellsOf 83) 0 83 1 = true := by kernel_rfl

set_option maxRecDepth 100000 in
theorem copyCheck_used (b : Nat) (w : World) (h0 : w.cell? ⟨b, 0, none⟩ = some (.pointer (some ⟨b, 0, none⟩))) :
    Calls Tryz.prog 55 #[.pointer (some ⟨b, 0, none⟩)] w fun e w' => e = .returned (.tuple #[]) ∧ w' = w := by
  obtain ⟨j, hj, _⟩ := Option.map_eq_some_iff.1 sizeBuilder
  go_enter Tryz.func55, Tryz.ntmps55
  go_wp2
  rw [Lib.run_neq_ptr_same w _ Tryz.underlying81 hj]
  go_wp2
  go_end0
  exact ⟨rfl, rfl⟩

set_option maxRecDepth 100000 in
set_option maxHeartbeats 1000000 in
theorem copyCheck_fresh (b : Nat) (w : World) (h0 : w.cell? ⟨b, 0, none⟩ = some (.pointer none)) (hsh : w.shape? b = some (83, 2)) (hfz : w.frozen? ⟨b, 0, none⟩ = false) :
    Calls Tryz.prog 55 #[.pointer (some ⟨b, 0, none⟩)] w fun e w' => e = .returned (.tuple #[]) ∧ w' = w.setCell ⟨b, 0, none⟩ (.pointer (some ⟨b, 0, none⟩)) := by
  obtain ⟨j, hj, hjs⟩ := Option.map_eq_some_iff.1 sizeBuilder
  go_enter Tryz.func55, Tryz.ntmps55
  go_wp2
  rw [Lib.run_to_unsafe w ⟨b, 0, none⟩ Tryz.underlying81 Tryz.underlying108 hj (by rw [hjs]; decide) hsh (Nat.zero_lt_succ 1)]
  simp only [Result.andThen]
  rw [Oper.upon_value]
  go_wp2
  rw [run_callFunc_extern Tryz.func76 (by kernel_rfl) (by kernel_rfl) (by kernel_rfl) (e := Extern.AbiNoEscape.same) (by kernel_rfl)]
  rw [Lib.run_noEscape]
  simp only [Result.andThen]
  rw [Oper.upon_value]
  go_wp2
  rw [Lib.run_from_unsafe w ⟨b, 0, none⟩ Tryz.underlying108 Tryz.underlying81 hj hsh liesBuilder]
  simp only [Result.andThen]
  rw [Oper.upon_value]
  go_wp2
  go_end0
  exact ⟨rfl, rfl⟩

theorem copyCheck_k (B b : Nat) (bs : List Value) (w : World) (h : Lib.IsBuilderF 83 5 B b bs w) :
    Calls Tryz.prog 55 #[.pointer (some ⟨b, 0, none⟩)] w fun e w' => e = .returned (.tuple #[]) ∧ (Lib.BuilderAtF 83 5 B b (.pointer (some ⟨b, 0, none⟩)) bs w' ∧ Below B w w' ∧ Lib.OthersKept 5 (some b) w w') := by
  rcases h with h | h
  · refine (copyCheck_fresh b w h.cell0 h.shape h.frozen0).mono ?_
    rintro e w' ⟨rfl, rfl⟩
    exact ⟨rfl, h.used _, (Below.refl B w).setCell (p := ⟨b, 0, none⟩) h.1 _, (Lib.OthersKept.refl _ _ w).setCell ⟨b, 0, none⟩ rfl _⟩
  · refine (copyCheck_used b w h.cell0).mono ?_
    rintro e w' ⟨rfl, rfl⟩
    exact ⟨rfl, h, Below.refl B _, Lib.OthersKept.refl _ _ _⟩

theorem WriteByte_k (B b : Nat) (bs : List Value) (c : Int) (w : World) (h : Lib.IsBuilderF 83 5 B b bs w) (hlen : bs.length + 1 ≤ 140737488355328) (hBw : B ≤ w.heap.size) :
    Calls Tryz.prog 30 #[.pointer (some ⟨b, 0, none⟩), .int .u8 c] w fun e w' => e = .returned .nilIface ∧ (Lib.BuilderAtF 83 5 B b (.pointer (some ⟨b, 0, none⟩)) (bs ++ [.int .u8 c]) w' ∧ Below B w w' ∧ Lib.OthersKept 5 (some b) w w') := by
  obtain ⟨i0, hi, hz0, hz1, hz2⟩ := info_parts infoByte
  go_enter Tryz.func30, Tryz.ntmps30
  go_wp2_with (go_at_call 55; refine (copyCheck_k B b bs _ h).mono ?_)
  rintro e w1 ⟨rfl, h1, hb1, hk1⟩
  obtain ⟨hB, v, hbk, hown, hne⟩ := h1
  have c0 : w1.cell? ⟨b, 0, none⟩ = some (.pointer (some ⟨b, 0, none⟩)) := by rw [Lib.cell_of_heap hbk]; rfl
  have c1 : w1.cell? ⟨b, 1, none⟩ = some v := by rw [Lib.cell_of_heap hbk]; rfl
  go_wp2_with (at_builtin; refine wpList_append_ownF _ rfl _ _ 80 rfl B 5 i0 (.int .u8 0) 1 1 Tryz.underlying80 hi hz0 hz1 hz2 rfl (by decide) _ _ _ rfl (hown.alloc _) ⟨w1.heap.size, 0, none⟩ 1 1 [.int .u8 c] rfl rfl ?c1 ?c2 ?c3 ?c4 ?c5 ?_)
  case c1 =>
    intro j u hj
    match j, hj with
    | 0, hj => simp at hj; subst hj; simp [Addr.add]
  case c2 => intro u hu; simp at hu; subst hu; rfl
  case c3 => unfold maxLen; omega
  case c4 => omega
  case c5 => have := hb1.size; simp; omega
  intro v' w2 hown' hgrow _
  have hlt : b < w1.heap.size := (Array.getElem?_eq_some_iff.1 hbk).1
  have hb2 : w2.heap[b]? = some (.cells #[.pointer (some ⟨b, 0, none⟩), v] 83 (0, 0)) := by
    rw [hgrow.block b (by simp; omega) (fun e => hne e.symm), Lib.alloc_old w1 _ b hlt]
    exact hbk
  have d0 : w2.cell? ⟨b, 0, none⟩ = some (.pointer (some ⟨b, 0, none⟩)) := by rw [Lib.cell_of_heap hb2]; rfl
  have d1 : w2.cell? ⟨b, 1, none⟩ = some v := by rw [Lib.cell_of_heap hb2]; rfl
  have f1 : w2.frozen? ⟨b, 1, none⟩ = false := Lib.frozen_of_heap hb2 1
  obtain ⟨g, cap, rfl⟩ : ∃ g cap, v' = .slice (some ⟨g, 0, none⟩) (bs.length + 1) cap := by
    rcases hown'.2 with ⟨_, h0⟩ | ⟨g, cap, cur, fz, hv, _⟩
    · omega
    · exact ⟨g, cap, hv⟩
  go_wp2
  go_ret
  refine ⟨rfl, ?_, ?_, ((hk1.alloc _).grown hgrow (Lib.ownsRowF_kind (hown.alloc _))).setCell ⟨b, 1, none⟩ rfl _⟩
  · exact Lib.BuilderAtF.put (T := 83) (e := 5) hB hb2 (bs' := bs ++ [.int .u8 c]) (by simpa using hown') (by decide)
  · exact ((hb1.alloc (by have := hb1.size; omega) _).grown hgrow (by have := hb1.size; simp; omega) (fun k hk => (hown.lt k hk).1)).setCell (p := ⟨b, 1, none⟩) hB _

theorem WriteString_k (B b : Nat) (bs : List Value) (s : ByteArray) (w : World) (h : Lib.IsBuilderF 83 5 B b bs w) (hlen : bs.length + s.size ≤ 140737488355328) (hBw : B ≤ w.heap.size) :
    Calls Tryz.prog 28 #[.pointer (some ⟨b, 0, none⟩), .string s] w fun e w' => e = .returned (.tuple #[.int .i64 s.size, .nilIface]) ∧ (Lib.BuilderAtF 83 5 B b (.pointer (some ⟨b, 0, none⟩)) (bs ++ Lib.strCells s) w' ∧ Below B w w' ∧ Lib.OthersKept 5 (some b) w w') := by
  obtain ⟨i0, hi, hz0, hz1, hz2⟩ := info_parts infoByte
  go_enter Tryz.func28, Tryz.ntmps28
  go_wp2_with (go_at_call 55; refine (copyCheck_k B b bs _ h).mono ?_)
  rintro e w1 ⟨rfl, h1, hb1, hk1⟩
  obtain ⟨hB, v, hbk, hown, hne⟩ := h1
  have c0 : w1.cell? ⟨b, 0, none⟩ = some (.pointer (some ⟨b, 0, none⟩)) := by rw [Lib.cell_of_heap hbk]; rfl
  have c1 : w1.cell? ⟨b, 1, none⟩ = some v := by rw [Lib.cell_of_heap hbk]; rfl
  go_wp2_with (at_builtin; refine Lib.wpList_append_own_stringF _ rfl _ _ 80 9 rfl B 5 i0 Tryz.underlying80 Tryz.underlying9 hi hz0 hz1 hz2 _ _ _ rfl hown s rfl ?c3 ?c4 ?c5 ?_)
  case c3 => unfold maxLen; omega
  case c4 => omega
  case c5 => have := hb1.size; omega
  intro v' w2 hown' hgrow _
  have hlt : b < w1.heap.size := (Array.getElem?_eq_some_iff.1 hbk).1
  have hb2 : w2.heap[b]? = some (.cells #[.pointer (some ⟨b, 0, none⟩), v] 83 (0, 0)) := by
    rw [hgrow.block b hlt (fun e => hne e.symm)]
    exact hbk
  have d0 : w2.cell? ⟨b, 0, none⟩ = some (.pointer (some ⟨b, 0, none⟩)) := by rw [Lib.cell_of_heap hb2]; rfl
  have d1 : w2.cell? ⟨b, 1, none⟩ = some v := by rw [Lib.cell_of_heap hb2]; rfl
  have f1 : w2.frozen? ⟨b, 1, none⟩ = false := Lib.frozen_of_heap hb2 1
  obtain ⟨ao, n', cap, rfl⟩ : ∃ ao n' cap, v' = .slice ao n' cap := by
    rcases hown'.2 with ⟨hv, _⟩ | ⟨g, cap, cur, fz, hv, _⟩
    · exact ⟨_, _, _, hv⟩
    · exact ⟨_, _, _, hv⟩
  go_wp2
  go_ret2
  refine ⟨rfl, ?_, ?_, (hk1.grown hgrow (Lib.ownsRowF_kind hown)).setCell ⟨b, 1, none⟩ rfl _⟩
  · exact Lib.BuilderAtF.put (T := 83) (e := 5) hB hb2 (bs' := bs ++ Lib.strCells s) (by simpa [Lib.strCells_length] using hown') (by decide)
  · exact (hb1.grown hgrow (by have := hb1.size; omega) (fun k hk => (hown.lt k hk).1)).setCell (p := ⟨b, 1, none⟩) hB _
end Go.Proofs.YtfbmlnkgjgnnhaaGreatDoor
end

section
namespace Go.Proofs.YtfbmlnkgjgnnhaaGreatDoor
open Go.RowKit

/-- what of the library's own variables the calls read -/
structure Env (w : World) : Prop where
  size : 10 ≤ w.heap.size
  maxLen : ∃ m, w.cell? ⟨3, 0, none⟩ = some (.int .i64 m)
  tab : Lib.TabIs Tryz.prog w "internal/strconv.uint64pow10" .u64 Lib.pow10Tab

theorem glob_lt : Tryz.prog.globalNamed "internal/strconv.uint64pow10" = some 6 := by kernel_rfl

theorem Env.keep {w w' : World} (h : Env w) (hs : w.heap.size ≤ w'.heap.size) (hk : ∀ k, k < 10 → w'.heap[k]? = w.heap[k]?) : Env w' := by
  refine ⟨Nat.le_trans h.size hs, ?_, ?_⟩
  · obtain ⟨m, hm⟩ := h.maxLen
    exact ⟨m, by rw [World.cell?_of_block (w := w) (hk 3 (by decide))]; exact hm⟩
  · have := h.tab
    unfold Lib.TabIs World.var? at this ⊢
    rw [glob_lt] at this ⊢
    simp only [Option.bind_some] at this ⊢
    rw [hk 6 (by decide)]
    exact this

theorem Env.below {B : Nat} {w w' : World} (h : Env w) (hb : Below B w w') (hB : 10 ≤ B) : Env w' := h.keep hb.size fun k hk => hb.block k (by omega)
theorem Env.next {w w' : World} (h : Env w) (hb : Below w.heap.size w w') : Env w' := h.below hb h.size

theorem ret_at {v v' : Value} (h : v = v') : Ending.returned v = .returned v' := by rw [h]

theorem atoi_ok (s : ByteArray) (h : Drl.numOk s.data.toList = true) (w : World) :
    Calls Tryz.prog 62 #[.string s] w fun e w' => e = .returned (.tuple #[.int .i64 (Drl.numVal s.data.toList), .nilIface]) ∧ Below w.heap.size w w' := by
  have hl : s.size ≤ 18 := by
    have := h
    simp only [Drl.numOk, Bool.and_eq_true, decide_eq_true_eq, size_len] at this
    omega
  refine (Tryz.strconv_Atoi s _ hl (Drl.atoi_numOk _ h) w).mono ?_
  rintro e w' ⟨rfl, t, rfl⟩
  exact ⟨rfl, Lib.bytesWorld_below w 5 t⟩

theorem itoa_ok (n : Int) (h0 : 0 ≤ n) (hn : n ≤ 9223372036854775807) (w : World) (hE : Env w) :
    Calls Tryz.prog 56 #[.int .i64 n] w fun e w' => e = .returned (.string ⟨(Lib.decDigits n.toNat).toArray⟩) ∧ Below w.heap.size w w' := by
  refine (Tryz.strconv_Itoa n (by omega) (by omega) w hE.tab).mono ?_
  rintro e w' ⟨rfl, k, os, rfl⟩
  refine ⟨?_, Lib.below_grow _ w (Nat.le_refl _) k os⟩
  unfold Lib.itoa
  rw [if_neg (by omega)]

/-! ### number -/
theorem numOk_short (s : ByteArray) (h : s.size < 1 ∨ 6 < s.size) : Drl.numOk s.data.toList = false := by
  rw [Bool.eq_false_iff]
  intro e
  simp only [Drl.numOk, Bool.and_eq_true, decide_eq_true_eq, size_len] at e
  omega
theorem head_get (s : ByteArray) (h : 0 < s.size) : s.data.toList.headD 0 = s[0]'h := by
  have := get_list s 0 h
  cases hs : s.data.toList with
  | nil => have e := size_len s; rw [hs] at e; simp at e; omega
  | cons a t => simp only [hs, List.getElem_cons_zero] at this; simpa using this
theorem numOk_zero (s : ByteArray) (h : 1 < s.size) (h0 : ((s[0]'(by omega)).toNat : Int) = 48) : Drl.numOk s.data.toList = false := by
  rw [Bool.eq_false_iff]
  intro e
  simp only [Drl.numOk, Bool.and_eq_true, decide_eq_true_eq, size_len, head_get s (by omega), Bool.not_eq_true', Bool.and_eq_false_iff, decide_eq_false_iff_not] at e
  omega
theorem numOk_bad (s : ByteArray) (k : Nat) (h : k < s.size) (hc : Drl.isDig (s[k]'h) = false) : Drl.numOk s.data.toList = false := by
  have : s.data.toList.all Drl.isDig = false := by
    rw [List.all_eq_false]
    refine ⟨s[k], ?_, by rw [hc]; simp⟩
    rw [← get_list s k h]; exact List.getElem_mem _
  simp [Drl.numOk, this]
theorem numOk_all (s : ByteArray) (h1 : 1 ≤ s.size) (h6 : s.size ≤ 6) (h0 : 1 < s.size → ((s[0]'h1).toNat : Int) ≠ 48) (h : ∀ j (hj : j < s.size), Drl.isDig (s[j]'hj) = true) : Drl.numOk s.data.toList = true := by
  have : s.data.toList.all Drl.isDig = true := by
    rw [List.all_eq_true]
    intro x hx
    obtain ⟨j, hj, rfl⟩ := List.getElem_of_mem hx
    have hj' : j < s.size := by rw [size_len] at hj; exact hj
    rw [get_list s j hj']; exact h j hj'
  simp only [Drl.numOk, this, Bool.and_true, Bool.and_eq_true, decide_eq_true_eq, size_len, head_get s h1, Bool.not_eq_true', Bool.and_eq_false_iff, decide_eq_false_iff_not]
  refine ⟨⟨h1, h6⟩, ?_⟩
  by_cases e : 1 < s.size
  · right; have := h0 e; omega
  · left; exact e

theorem ret_number {a b : Int} {c d : Bool} (h : a = b) (k : c = d) : Ending.returned (.tuple #[.int .i64 a, .bool c]) = .returned (.tuple #[.int .i64 b, .bool d]) := by rw [h, k]
theorem numN_no {l : List UInt8} (h : Drl.numOk l = false) : (0 : Int) = Drl.numN l := by simp [Drl.numN, h]
theorem numB_no {l : List UInt8} (h : Drl.numOk l = false) (m : Int) : false = Drl.numB l m := by simp [Drl.numB, h]
theorem numN_ok {l : List UInt8} (h : Drl.numOk l = true) : (Drl.numVal l : Int) = Drl.numN l := by simp [Drl.numN, h]
theorem numB_ok {l : List UInt8} (h : Drl.numOk l = true) (m : Int) : decide ((Drl.numVal l : Int) ≤ m) = Drl.numB l m := by simp [Drl.numB, h]

theorem number_any (s : ByteArray) (m : Int) (w : World) :
    Calls Tryz.prog 36 #[.string s, .int .i64 m] w fun r w' => r = .returned (.tuple #[.int .i64 (Drl.numN s.data.toList), .bool (Drl.numB s.data.toList m)]) ∧ Below w.heap.size w w' := by
  by_cases hs1 : s.size < 1
  · have H := Lib.hid (numOk_short s (.inl hs1))
    go_enter Tryz.func36, Tryz.ntmps36
    go_wp2_with fail
    go_ret2
    exact ⟨ret_number (numN_no H.out) (numB_no H.out _), Below.refl _ _⟩
  by_cases hs6 : 6 < s.size
  · have H := Lib.hid (numOk_short s (.inr hs6))
    go_enter Tryz.func36, Tryz.ntmps36
    go_wp2_with fail
    go_ret2
    exact ⟨ret_number (numN_no H.out) (numB_no H.out _), Below.refl _ _⟩
  have h0s : 0 < s.size := by omega
  by_cases hz : 1 < s.size ∧ ((s[0]'h0s).toNat : Int) = 48
  · obtain ⟨hz1, hz0⟩ := hz
    have H := Lib.hid (numOk_zero s hz1 hz0)
    go_enter Tryz.func36, Tryz.ntmps36
    go_wp2_with fail
    go_ret2
    exact ⟨ret_number (numN_no H.out) (numB_no H.out _), Below.refl _ _⟩
  have hz' : 1 < s.size → ((s[0]'h0s).toNat : Int) ≠ 48 := fun h e => hz ⟨h, e⟩
  have HZ := Lib.hid hz'
  clear hz
  have hcase : (¬ 1 < s.size) ∨ (1 < s.size ∧ (((s[0]'h0s).toNat : Int) == 48) = false) := by
    by_cases h : 1 < s.size
    · exact .inr ⟨h, by simpa using hz' h⟩
    · exact .inl h
  clear hz'
  rcases hcase with h1 | ⟨h1, h48⟩
  all_goals
    go_enter Tryz.func36, Tryz.ntmps36
    go_wp2_with fail
    go_loopw [] (fun wr => ∃ k : Nat, k ≤ s.size ∧ wr.heap[w.heap.size]? = some (.stringIter s k) ∧ Below w.heap.size w wr ∧ ∀ j (hj : j < s.size), j < k → Drl.isDig (s[j]'hj) = true) (fun wr => s.size - wr.iterPos w.heap.size)
    case atStart =>
      exact ⟨0, by omega, World.iter_heap w s 0, (Below.refl _ w).alloc (Nat.le_refl _) _, fun _ _ h => by omega⟩
    case round =>
      obtain ⟨k, hk, hit, hbw, hall⟩ := hrel
      by_cases hp : k < s.size
      · have hnx : ∀ ty, (Instr.next (.pointer (some ⟨w.heap.size, 0, none⟩)) true ty).run Tryz.prog wr = _ := fun ty => Lib.run_next_any_at wr w.heap.size s k ty hit hp
        have hbw2 := Lib.below_iterAt hbw (k := w.heap.size) (by omega) s (k + (Utf8.decode s k).2)
        have hit2 := Lib.iterAt_heap wr w.heap.size s k (k + (Utf8.decode s k).2) hit
        have hle := decode_le s k
        have HA := Lib.hid hall
        clear hall
        by_cases hlo : ((Utf8.decode s k).1 : Int) < 48
        · have hfin := numOk_bad s k hp (by rcases decode_cases s k hp with ⟨h1, h2⟩ | ⟨h1, h2⟩ <;> simp only [Drl.isDig] <;> simp_all <;> omega)
          have HF := Lib.hid hfin
          clear hfin
          go_wp2_with fail
          go_ret2
          exact ⟨ret_number (numN_no HF.out) (numB_no HF.out _), hbw2⟩
        · by_cases hhi : 57 < ((Utf8.decode s k).1 : Int)
          · have hfin := numOk_bad s k hp (by rcases decode_cases s k hp with ⟨h1, h2⟩ | ⟨h1, h2⟩ <;> simp only [Drl.isDig] <;> simp_all <;> omega)
            have HF := Lib.hid hfin
            clear hfin
            go_wp2_with fail
            go_ret2
            exact ⟨ret_number (numN_no HF.out) (numB_no HF.out _), hbw2⟩
          · have h1 : Utf8.decode s k = ((s[k]'hp).toNat, 1) := by
              rcases decode_cases s k hp with ⟨h1, h2⟩ | ⟨h1, h2⟩
              · exact h1
              · omega
            have hl : Drl.isDig (s[k]'hp) = true := by rw [h1] at hlo hhi; simp only [Drl.isDig]; simp; omega
            have H1 := Lib.hid h1
            clear h1
            go_wp2_with fail
            go_roundw
            case rel =>
              rw [H1.out] at hit2 hbw2 ⊢
              refine ⟨k + 1, by omega, hit2, hbw2, fun j hj hjk => ?_⟩
              by_cases e : j = k
              · subst e; exact hl
              · exact HA.out j hj (by omega)
            case measure =>
              rw [H1.out] at hit2 ⊢
              simp only [World.iterPos, hit2, hit]
              omega
      · have hnx : ∀ ty, (Instr.next (.pointer (some ⟨w.heap.size, 0, none⟩)) true ty).run Tryz.prog wr = _ := fun ty => Lib.run_next_end_at wr w.heap.size s k ty hit hp
        have hOk := numOk_all s (by omega) (by omega) HZ.out (fun j hj => hall j hj (by omega))
        have HO := Lib.hid hOk
        clear hall hOk
        go_wp2_with (go_at_call 62; refine (atoi_ok s HO.out _).mono ?_)
        rintro e w2 ⟨rfl, hb2⟩
        go_wp2_with fail
        go_ret2
        exact ⟨ret_number (numN_ok HO.out) (numB_ok HO.out _), hbw.trans (hb2.mono hbw.size)⟩
end Go.Proofs.YtfbmlnkgjgnnhaaGreatDoor
end

section
namespace Go.Proofs.YtfbmlnkgjgnnhaaGreatDoor
open Go.RowKit

/-! ### the numbers that letters stand for, in memory -/
def numsCells (v : Drl.Nums) : Array Value := Array.ofFn fun i : Fin 128 => Value.int .i64 (v i.val)
def NumsAt (w : World) (V : Nat) (v : Drl.Nums) : Prop := w.heap[V]? = some (.cells (numsCells v) 101 (0, 0))

theorem numsCells_size (v : Drl.Nums) : (numsCells v).size = 128 := by simp [numsCells]
theorem numsCells_get (v : Drl.Nums) (i : Nat) (h : i < 128) : (numsCells v)[i]? = some (.int .i64 (v i)) := by
  simp [numsCells, h]
theorem numsCells_set (v : Drl.Nums) (c : Nat) (k : Int) : (numsCells v).setIfInBounds c (.int .i64 k) = numsCells (Drl.upd v c k) := by
  apply Array.ext_getElem?
  intro i
  rw [Array.getElem?_setIfInBounds]
  by_cases hi : i < 128
  · rw [numsCells_get _ i hi, numsCells_get _ i hi]
    by_cases e : c = i
    · subst e; simp [numsCells_size, hi, Drl.upd]
    · rw [if_neg e]; simp [Drl.upd, Ne.symm e]
  · rw [Array.getElem?_eq_none (by rw [numsCells_size]; omega), Array.getElem?_eq_none (by rw [numsCells_size]; omega)]
    by_cases e : c = i
    · subst e; simp [numsCells_size, hi]
    · rw [if_neg e]
theorem NumsAt.cell {w : World} {V : Nat} {v : Drl.Nums} (h : NumsAt w V v) (i : Nat) (hi : i < 128) : w.cell? ⟨V, i, none⟩ = some (.int .i64 (v i)) := by
  unfold NumsAt at h
  simp [World.cell?, h, numsCells_get v i hi]
theorem NumsAt.frozen {w : World} {V : Nat} {v : Drl.Nums} (h : NumsAt w V v) (i : Nat) : w.frozen? ⟨V, i, none⟩ = false := Lib.frozen_of_heap h i
theorem NumsAt.lt {w : World} {V : Nat} {v : Drl.Nums} (h : NumsAt w V v) : V < w.heap.size := (Array.getElem?_eq_some_iff.1 h).1
theorem NumsAt.set {w : World} {V : Nat} {v : Drl.Nums} (h : NumsAt w V v) (c : Nat) (k : Int) : NumsAt (w.setCell ⟨V, c, none⟩ (.int .i64 k)) V (Drl.upd v c k) := by
  unfold NumsAt at h ⊢
  simp [World.setCell, Array.getElem?_modify, h, numsCells_set]
theorem nums_congr {v v' : Drl.Nums} (h : ∀ i, i < 128 → v i = v' i) : numsCells v = numsCells v' := by
  unfold numsCells
  congr 1
  funext i
  rw [h i.val i.isLt]

theorem zeros_rep : Tryz.zeroCells101 = Array.replicate 128 (Value.int .i64 0) := by kernel_rfl
theorem zeros_nums : Tryz.zeroCells101 = numsCells fun _ => 0 := by
  rw [zeros_rep]
  apply Array.ext_getElem?
  intro i
  by_cases hi : i < 128
  · rw [numsCells_get _ i hi]; simp [hi]
  · rw [Array.getElem?_eq_none (by simp; omega), Array.getElem?_eq_none (by rw [numsCells_size]; omega)]

set_option maxRecDepth 100000 in
theorem none_any (w : World) :
    Calls Tryz.prog 23 #[] w fun e w' => e = .returned (.pointer (some ⟨w.heap.size, 0, none⟩)) ∧ NumsAt w' w.heap.size Drl.noNums ∧ Below w.heap.size w w' := by
  go_enter Tryz.func23, Tryz.ntmps23
  go_wp2
  go_loopw [5] (fun i wr => ∃ k : Nat, k ≤ 128 ∧ i = .int .i64 k ∧ NumsAt wr w.heap.size (fun j => if j < k then -1 else 0) ∧ Below w.heap.size w wr) (fun i _ => 128 - (intOf i).toNat)
  case atStart =>
    refine ⟨0, by omega, rfl, ?_, (Below.refl _ w).alloc (Nat.le_refl _) _⟩
    unfold NumsAt
    rw [heap_alloc_new, zeros_nums]
    simp
  case round =>
    obtain ⟨k, hk, rfl, hN, hb⟩ := hrel
    by_cases hlt : k < 128
    · have hc := hN.cell k hlt
      have hf := hN.frozen k
      have hN2 := hN.set k (-1)
      have HN := Lib.hid hN2
      have HN1 := Lib.hid hN
      clear hN2 hN
      go_wp2
      go_roundw
      case rel =>
        refine ⟨k + 1, by omega, by go_num, ?_, hb.setCell (Nat.le_refl _) _⟩
        have := HN.out
        unfold NumsAt at this ⊢
        rw [this, nums_congr]
        intro i hi
        simp only [Drl.upd]
        by_cases e : i = k
        · subst e; simp
        · rw [if_neg e]
          by_cases e2 : i < k
          · rw [if_pos e2, if_pos (by omega)]
          · rw [if_neg e2, if_neg (by omega)]
      case measure => simp [intOf]; omega
    · go_wp2
      go_ret
      refine ⟨rfl, ?_, hb⟩
      unfold NumsAt at hN ⊢
      rw [hN, nums_congr]
      intro i hi
      rw [if_pos (by omega)]; rfl
end Go.Proofs.YtfbmlnkgjgnnhaaGreatDoor
end
