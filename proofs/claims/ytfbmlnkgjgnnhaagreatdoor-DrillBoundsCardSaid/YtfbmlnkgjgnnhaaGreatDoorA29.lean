import Derived.Test.YtfbmlnkgjgnnhaaGreatDoorA28
namespace Go.Proofs.YtfbmlnkgjgnnhaaGreatDoor
open Go.RowKit

set_option maxRecDepth 100000
set_option maxHeartbeats 4000000

/-- how many line ends the first k bytes hold -/
def nlN (s : ByteArray) (k : Nat) : Nat := (s.data.toList.take k).count 10
theorem nlN_yes (s : ByteArray) (k : Nat) (h : k < s.size) (hc : ((s[k]'h).toNat : Int) = 10) : nlN s (k + 1) = nlN s k + 1 := by
  have e : s[k]'h = 10 := UInt8.toNat_inj.1 (by simpa using (by omega : (s[k]'h).toNat = 10))
  unfold nlN
  rw [List.take_succ_eq_append_getElem (by rw [size_len]; exact h), get_list s k h, e]
  simp
theorem nlN_no (s : ByteArray) (k : Nat) (h : k < s.size) (hc : ((s[k]'h).toNat : Int) ≠ 10) : nlN s (k + 1) = nlN s k := by
  have e : s[k]'h ≠ 10 := by intro e; rw [e] at hc; exact hc rfl
  unfold nlN
  rw [List.take_succ_eq_append_getElem (by rw [size_len]; exact h), get_list s k h, List.count_append, List.count_singleton]
  simp [e]
theorem nlN_le (s : ByteArray) (k : Nat) : nlN s k ≤ k := Nat.le_trans List.count_le_length (List.length_take_le _ _)
theorem nlN_all (s : ByteArray) (k : Nat) (h : s.size ≤ k) : nlN s k = s.data.toList.count 10 := by
  unfold nlN; rw [List.take_of_length_le (by rw [size_len]; exact h)]

/-- a step's text as the law reads it -/
theorem dr_text {C : Nat} {x : Drl.Dr} (h : Drl.DrB C x) : ∃ t : ByteArray, strV x.text = .string t ∧ t.size ≤ 393216 ∧ (x.want = false → ∃ h : 0 < t.size, ((t[0]'h).toNat : Int) ≠ 32 ∧ ((t[0]'h).toNat : Int) ≠ 35) ∧ ∀ m (hm : m < t.size), ((t[m]'hm).toNat : Int) ≠ 10 := by
  refine ⟨⟨x.text.toArray⟩, rfl, by simpa [ByteArray.size] using h.len, fun hw => ?_, fun m hm => ?_⟩
  · obtain ⟨h1, h2, h3⟩ := h.first hw
    match e : x.text, h1 with
    | c :: r, _ =>
      rw [e] at h2 h3
      refine ⟨by simp [ByteArray.size], ?_, ?_⟩
      · intro q; apply h2; exact UInt8.toNat_inj.1 (by simpa using (by exact_mod_cast q : c.toNat = 32))
      · intro q; apply h3; exact UInt8.toNat_inj.1 (by simpa using (by exact_mod_cast q : c.toNat = 35))
  · intro q
    have hm' : m < x.text.length := by simpa [ByteArray.size] using hm
    apply h.nl (x.text[m]'hm') (List.getElem_mem _)
    have e : (⟨x.text.toArray⟩ : ByteArray)[m]'hm = x.text[m]'hm' := by
      show x.text.toArray[m]'_ = _
      simp
    rw [e] at q
    exact UInt8.toNat_inj.1 (by simpa using (by exact_mod_cast q : (x.text[m]'hm').toNat = 10))

/-- DrillBounds where there is none -/
theorem bounds_fine (s : ByteArray) (w : World) (hs : s.size ≤ 9223372036854775807) (hE : Env w) (k : Nat) (a : List Drl.Dr × Nat) (hr : Drl.unroll k s.data.toList = some (.ok a)) :
    Calls Tryz.prog 4 #[.string s] w fun e w' => e = .returned (.bool true) ∧ Below w.heap.size w w' := by
  obtain ⟨l, n⟩ := a
  have hbd := Drl.bounds hr
  simp only [Drl.Bounds, size_len] at hbd
  obtain ⟨h1, h2, h3, h4, h5, h6⟩ := hbd
  have HE := Lib.hid hE
  have HR := Lib.hid hr
  have H5 := Lib.hid h5
  have H6 := Lib.hid h6
  clear hE hr h5 h6
  have i1 : ¬ 4096 < (l.length : Int) := by omega
  have i2 : ¬ (n : Int) < 1 := by omega
  have i3 : ¬ 64 < (n : Int) := by omega
  have i4 : ¬ 65536 < (s.size : Int) := by omega
  go_enter Tryz.func4, Tryz.ntmps4
  go_wp2_with fail
  refine (drilled_ok w HE.out).mono ?_
  rintro e w1 ⟨rfl, hb1⟩
  have HB1 := Lib.hid hb1
  have HE1 := Lib.hid (HE.out.next hb1)
  clear hb1
  go_wp2_with fail
  refine (unroll_ok k s w1 HE1.out _ HR.out).mono ?_
  rintro e w2 ⟨hb2, sv, rfl, hown⟩
  have HB2 := Lib.hid (HB1.out.trans (hb2.mono HB1.out.size))
  clear hb2
  obtain ⟨ao, cap, rfl, hcells⟩ : ∃ ao cap, sv = .slice ao l.length cap ∧ (l ≠ [] → ∃ g, ao = some ⟨g, 0, none⟩ ∧ l.length ≤ cap ∧ StepsIn w2 g l) := by
    rcases StepsOwn.at_ hown with ⟨rfl, rfl⟩ | ⟨g, cap, rfl, q1, _, _, q2⟩
    · exact ⟨none, 0, rfl, fun h => absurd rfl h⟩
    · exact ⟨some ⟨g, 0, none⟩, cap, rfl, fun _ => ⟨g, rfl, q1, q2⟩⟩
  have HC := Lib.hid hcells
  clear hown hcells
  go_wp2_with fail
  go_loop [9, 10] (fun c i => ∃ j : Nat, j ≤ s.size ∧ i = .int .i64 j ∧ c = .int .i64 ((1 + nlN s j : Nat) : Int)) (fun _ i => s.size - (intOf i).toNat)
  case atStart => exact ⟨0, Nat.zero_le _, rfl, rfl⟩
  case round =>
    obtain ⟨j, hj, rfl, rfl⟩ := hrel
    have hle := nlN_le s j
    by_cases hlt : j < s.size
    · by_cases h10 : ((s[j]'hlt).toNat : Int) = 10
      · have HN := Lib.hid (nlN_yes s j hlt h10)
        have e10 : (((s[j]'hlt).toNat : Int) == 10) = true := by rw [h10]; rfl
        clear h10
        go_wp2_with fail
        go_round
        case rel => exact ⟨j + 1, by omega, by go_num, by rw [HN.out]; congr 1⟩
        case measure => simp [intOf]; omega
      · have HN := Lib.hid (nlN_no s j hlt h10)
        have e10 : (((s[j]'hlt).toNat : Int) == 10) = false := by simpa using h10
        clear h10
        go_wp2_with fail
        go_round
        case rel => exact ⟨j + 1, by omega, by go_num, by rw [HN.out]⟩
        case measure => simp [intOf]; omega
    · have hall : nlN s j = s.data.toList.count 10 := nlN_all s j (by omega)
      obtain ⟨C, hC⟩ : ∃ C, C = 1 + nlN s j := ⟨_, rfl⟩
      have h5 := H5.out
      rw [← hall, ← hC] at h5
      have hCl : C ≤ 1 + s.size := by omega
      rw [← hC]
      have H5C := Lib.hid h5
      clear h5 hall hC H5 hle
      go_wp2_with fail
      go_loop [11] (fun i => ∃ m : Nat, m ≤ l.length ∧ i = .int .i64 m) (fun i => l.length - (intOf i).toNat)
      case atStart => exact ⟨0, Nat.zero_le _, rfl⟩
      case round =>
        obtain ⟨m, hm, rfl⟩ := hrel
        by_cases hml : m < l.length
        · obtain ⟨g, rfl, hcap, hin⟩ := HC.out (by rintro rfl; simp at hml)
          obtain ⟨x, hx⟩ : ∃ x, l[m]? = some x := ⟨l[m], List.getElem?_eq_getElem hml⟩
          have hd := H5C.out x (List.mem_of_getElem? hx)
          have hda := hin m x hx
          obtain ⟨t, ht, hts, hf, hnl⟩ := dr_text hd
          have c0 := hda.c0
          have c1 := hda.c1
          have c2 := hda.c2
          rw [ht] at c1
          have l1 : ¬ (x.line : Int) < 1 := by have := hd.lo; omega
          have l2 : ¬ ((C : Nat) : Int) ≤ (x.line : Int) := by have := hd.hi; omega
          have l3 : (m : Int) < (l.length : Int) := by omega
          have hw0 : m = 0 → x.want = false := by
            rintro rfl
            cases hl : l with
            | nil => rw [hl] at hx; simp at hx
            | cons y r => rw [hl] at hx; simp at hx; subst hx; exact H6.out y r hl
          have HW0 := Lib.hid hw0
          have HF := Lib.hid hf
          have HNL := Lib.hid hnl
          have HX := Lib.hid hx
          clear hd hda ht hf hnl hx hw0 hin
          cases hwant : x.want with
          | true =>
            rw [hwant] at c2
            have hm0 : ((m : Int) == 0) = false := by
              have : m ≠ 0 := fun h => by have := HW0.out h; rw [hwant] at this; cases this
              simpa using this
            clear hwant
            go_wp2_with fail
            go_loop [13] (fun i => ∃ q : Nat, q ≤ t.size ∧ i = .int .i64 q) (fun i => t.size - (intOf i).toNat)
            case atStart => exact ⟨0, Nat.zero_le _, rfl⟩
            case round =>
              obtain ⟨q, hq, rfl⟩ := hrel
              by_cases hqt : q < t.size
              · have e10 : (((t[q]'hqt).toNat : Int) == 10) = false := by simpa using HNL.out q hqt
                go_wp2_with fail
                go_round
                case rel => exact ⟨q + 1, by omega, by go_num⟩
                case measure => simp [intOf]; omega
              · go_wp2_with fail
                go_round
                case rel => exact ⟨m + 1, by omega, by go_num⟩
                case measure => simp [intOf]; omega
          | false =>
            rw [hwant] at c2
            obtain ⟨ht0, hf1, hf2⟩ := HF.out hwant
            have e32 : (((t[0]'ht0).toNat : Int) == 32) = false := by simpa using hf1
            have e35 : (((t[0]'ht0).toNat : Int) == 35) = false := by simpa using hf2
            have em1 : (!t.toList.isEmpty) = true := toList_some ht0
            have em2 : t.toList.isEmpty = false := by simpa using em1
            clear hwant hf1 hf2
            by_cases hm0 : m = 0
            · have em0 : ((m : Int) == 0) = true := by rw [hm0]; rfl
              clear hm0
              go_wp2_with fail
              go_loop [13] (fun i => ∃ q : Nat, q ≤ t.size ∧ i = .int .i64 q) (fun i => t.size - (intOf i).toNat)
              case atStart => exact ⟨0, Nat.zero_le _, rfl⟩
              case round =>
                obtain ⟨q, hq, rfl⟩ := hrel
                by_cases hqt : q < t.size
                · have e10 : (((t[q]'hqt).toNat : Int) == 10) = false := by simpa using HNL.out q hqt
                  go_wp2_with fail
                  go_round
                  case rel => exact ⟨q + 1, by omega, by go_num⟩
                  case measure => simp [intOf]; omega
                · go_wp2_with fail
                  go_round
                  case rel => exact ⟨m + 1, by omega, by go_num⟩
                  case measure => simp [intOf]; omega
            · have em0 : ((m : Int) == 0) = false := by simpa using hm0
              clear hm0
              go_wp2_with fail
              go_loop [13] (fun i => ∃ q : Nat, q ≤ t.size ∧ i = .int .i64 q) (fun i => t.size - (intOf i).toNat)
              case atStart => exact ⟨0, Nat.zero_le _, rfl⟩
              case round =>
                obtain ⟨q, hq, rfl⟩ := hrel
                by_cases hqt : q < t.size
                · have e10 : (((t[q]'hqt).toNat : Int) == 10) = false := by simpa using HNL.out q hqt
                  go_wp2_with fail
                  go_round
                  case rel => exact ⟨q + 1, by omega, by go_num⟩
                  case measure => simp [intOf]; omega
                · go_wp2_with fail
                  go_round
                  case rel => exact ⟨m + 1, by omega, by go_num⟩
                  case measure => simp [intOf]; omega
        · go_wp2_with fail
          go_ret
          exact ⟨rfl, HB2.out⟩
end Go.Proofs.YtfbmlnkgjgnnhaaGreatDoor
