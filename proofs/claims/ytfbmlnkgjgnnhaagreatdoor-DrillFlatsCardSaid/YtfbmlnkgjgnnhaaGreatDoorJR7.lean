import Derived.Test.YtfbmlnkgjgnnhaaGreatDoorJR6
import Derived.Test.YtfbmlnkgjgnnhaaGreatDoorJP10
set_option linter.unusedSimpArgs false
set_option linter.unusedVariables false
namespace Go.Proofs.YtfbmlnkgjgnnhaaGreatDoor
open Go.RowKit

/-- a slice's elements, and the type of their row -/
def RowT (w : World) (T : TypeId) (v : Value) (l : List Value) : Prop :=
  ∃ ao cap, v = .slice ao l.length cap ∧ (l = [] ∨ ∃ g c fz, ao = some ⟨g, 0, none⟩ ∧ w.heap[g]? = some (.cells c T fz) ∧ ∀ (i : Nat) (x : Value), l[i]? = some x → c[i]? = some x)
theorem RowT.keep {S : Nat → Prop} {es : TypeId → Prop} {w w' : World} {T : TypeId} {v : Value} {l : List Value} (h : RowT w T v l) (hk : Keep S es w w') (hS : ∀ b c fz, w.heap[b]? = some (.cells c T fz) → ¬ S b) (he : ¬ es T) : RowT w' T v l := by
  obtain ⟨ao, cap, hv, h⟩ := h
  refine ⟨ao, cap, hv, ?_⟩
  rcases h with h | ⟨g, c, fz, h1, h2, h3⟩
  · exact .inl h
  · exact .inr ⟨g, c, fz, h1, hk.cells h2 (hS _ _ _ h2) he, h3⟩
theorem RowT.next {w w' : World} {T : TypeId} {v : Value} {l : List Value} (h : RowT w T v l) (hb : Below w.heap.size w w') : RowT w' T v l :=
  h.keep (Keep.of_next (S := fun _ => False) (es := fun _ => False) hb) (fun _ _ _ _ => id) id
theorem RowT.row {w : World} {T : TypeId} {v : Value} {l : List Value} (h : RowT w T v l) (hl : 0 < l.length) : ∃ g cap, v = .slice (some ⟨g, 0, none⟩) l.length cap ∧ ∀ i x, l[i]? = some x → w.cell? ⟨g, i, none⟩ = some x := by
  obtain ⟨ao, cap, hv, h⟩ := h
  rcases h with rfl | ⟨g, c, fz, rfl, h2, h3⟩
  · exact absurd hl (by simp)
  · exact ⟨g, cap, hv, fun i x hx => cell_of h2 (h3 i x hx)⟩
theorem RowT.of_own {w : World} {B : Nat} {T : TypeId} {v : Value} {l : List Value} (h : w.ownsRow B T 1 v l.length l) : RowT w T v l := by
  rcases h.2 with ⟨hv, h0⟩ | ⟨g, cap, cur, hv, hb, hh, hn, _, hsz, htk⟩
  · exact ⟨none, 0, by rw [hv, h0], .inl (List.eq_nil_of_length_eq_zero h0)⟩
  · refine ⟨_, cap, hv, .inr ⟨g, cur, (0, 0), rfl, hh, fun i x hx => ?_⟩⟩
    have hi := (List.getElem?_eq_some_iff.1 hx).1
    rw [← htk, List.getElem?_take, if_pos (by omega)] at hx
    simpa using hx

def intV (k : Nat) : Value := .int .i64 k
/-- the sheet's rows of lines, kinds, ends -/
structure Sh (w : World) (R : Nat) (lv kv ev : Value) (L : List Drl.Str) (K : List Nat) (E : List Int) : Prop where
  c0 : w.cell? ⟨R, 0, none⟩ = some lv
  c1 : w.cell? ⟨R, 1, none⟩ = some kv
  c2 : w.cell? ⟨R, 2, none⟩ = some ev
  rl : RowT w 9 lv (L.map strV)
  rk : RowT w 3 kv (K.map intV)
  re : RowT w 3 ev (E.map (Value.int .i64))
  lenK : K.length = L.length
  lenE : E.length = L.length
  pos : 0 < L.length
theorem Sh.next {w w' : World} {R : Nat} {lv kv ev : Value} {L : List Drl.Str} {K : List Nat} {E : List Int} (h : Sh w R lv kv ev L K E) (hb : Below w.heap.size w w') : Sh w' R lv kv ev L K E :=
  ⟨by rw [hb.cell (cell_lt h.c0)]; exact h.c0, by rw [hb.cell (cell_lt h.c1)]; exact h.c1, by rw [hb.cell (cell_lt h.c2)]; exact h.c2, h.rl.next hb, h.rk.next hb, h.re.next hb, h.lenK, h.lenE, h.pos⟩
/-- .. opened -/
theorem Sh.rows {w : World} {R : Nat} {lv kv ev : Value} {L : List Drl.Str} {K : List Nat} {E : List Int} (h : Sh w R lv kv ev L K E) :
    ∃ lb lc kb kc eb ec, lv = .slice (some ⟨lb, 0, none⟩) L.length lc ∧ kv = .slice (some ⟨kb, 0, none⟩) L.length kc ∧ ev = .slice (some ⟨eb, 0, none⟩) L.length ec ∧
      (∀ i (hi : i < L.length), w.cell? ⟨lb, i, none⟩ = some (strV L[i])) ∧ (∀ i (hi : i < K.length), w.cell? ⟨kb, i, none⟩ = some (.int .i64 K[i])) ∧ (∀ i (hi : i < E.length), w.cell? ⟨eb, i, none⟩ = some (.int .i64 E[i])) := by
  obtain ⟨lb, lc, h1, h2⟩ := h.rl.row (by simpa using h.pos)
  obtain ⟨kb, kc, h3, h4⟩ := h.rk.row (by have := h.pos; have := h.lenK; simp; omega)
  obtain ⟨eb, ec, h5, h6⟩ := h.re.row (by have := h.pos; have := h.lenE; simp; omega)
  rw [List.length_map] at h1
  rw [List.length_map, h.lenK] at h3
  rw [List.length_map, h.lenE] at h5
  exact ⟨lb, lc, kb, kc, eb, ec, h1, h3, h5, fun i hi => h2 i _ (by simp [hi]), fun i hi => h4 i _ (by simp [hi, intV]), fun i hi => h6 i _ (by simp [hi])⟩

theorem there_no {L : List Drl.Str} {K : List Nat} {E : List Int} {s : Drl.Str} {k : Nat} (hk : k < K.length) (hke : k < E.length) (hkl : k < L.length) (h : K[k] ≠ 2 ∨ E[k] < 0 ∨ Drl.wd (Drl.words L[k]) 1 ≠ s) : ¬ Drl.IsThere L K E s k := by
  rintro ⟨h1, ⟨e, h2⟩, h3⟩
  rw [List.getElem?_eq_getElem hk] at h1
  rw [List.getElem?_eq_getElem hke] at h2
  rw [List.getD_eq_getElem?_getD, List.getElem?_eq_getElem hkl] at h3
  have h1 := Option.some.inj h1
  have h2 := Option.some.inj h2
  simp only [Option.getD_some] at h3
  rcases h with h | h | h
  · exact h h1
  · omega
  · exact h h3
theorem there_yes {L : List Drl.Str} {K : List Nat} {E : List Int} {s : Drl.Str} {k : Nat} (hk : k < K.length) (hke : k < E.length) (hkl : k < L.length) (h : K[k] = 2 ∧ ¬ E[k] < 0 ∧ Drl.wd (Drl.words L[k]) 1 = s) : Drl.IsThere L K E s k := by
  obtain ⟨h1, h2, h3⟩ := h
  refine ⟨by rw [List.getElem?_eq_getElem hk, h1], ⟨E[k].toNat, ?_⟩, ?_⟩
  · rw [List.getElem?_eq_getElem hke]; congr 1; omega
  · rw [List.getD_eq_getElem?_getD, List.getElem?_eq_getElem hkl]; exact h3

set_option maxRecDepth 100000 in
set_option maxHeartbeats 2000000 in
theorem rthere_any (w : World) (R : Nat) (lv kv ev : Value) (L : List Drl.Str) (K : List Nat) (E : List Int) (h : Sh w R lv kv ev L K E) (s : ByteArray) (j : Nat) (hj : j ≤ L.length) (hn : L.length ≤ 65536) (hL : ∀ t ∈ L, t.length ≤ 65536)
    (hdef : ∀ k (hk : k < K.length) (hke : k < E.length) (hkl : k < L.length), K[k] = 2 → 0 ≤ E[k] → 2 ≤ (Drl.words L[k]).length) :
    Calls Tryz.prog 48 #[.pointer (some ⟨R, 0, none⟩), .string s, .int .i64 j] w fun e w' => ∃ r, e = .returned (.int .i64 r) ∧ Drl.ThereIs L K E s.data.toList j r ∧ Below w.heap.size w w' := by
  have hlK := h.lenK
  have hlE := h.lenE
  obtain ⟨lb, lc, kb, kc, eb, ec, rfl, rfl, rfl, hlb, hkb, heb⟩ := h.rows
  have c0 := h.c0
  have c1 := h.c1
  have c2 := h.c2
  have HD := Lib.hid hdef
  have HLB := Lib.hid hlb
  have HKB := Lib.hid hkb
  have HEB := Lib.hid heb
  have HL := Lib.hid hL
  have H0 := Lib.hid c0
  have H1 := Lib.hid c1
  have H2 := Lib.hid c2
  clear hdef hlb hkb heb hL h c0 c1 c2
  go_enter Tryz.func48, Tryz.ntmps48
  go_wp2_with fail
  go_loopw [7] (fun i wr => ∃ k : Nat, k ≤ j ∧ i = .int .i64 k ∧ (∀ k', k' < k → ¬ Drl.IsThere L K E s.data.toList k') ∧ Below w.heap.size w wr) (fun i _ => j - (intOf i).toNat)
  case atStart => exact ⟨0, by omega, rfl, fun _ h => by omega, Below.refl _ _⟩
  case round =>
    obtain ⟨k, hk, rfl, hno, hb⟩ := hrel
    have HN := Lib.hid hno
    clear hno
    by_cases hlt : k < j
    · have hkl : k < L.length := by omega
      have hkk : k < K.length := by omega
      have hke : k < E.length := by omega
      have d0 := below_cell hb H0.out
      have d1 := below_cell hb H1.out
      have d2 := below_cell hb H2.out
      have d3 := below_cell hb (HLB.out k hkl)
      have d4 := below_cell hb (HKB.out k hkk)
      have d5 := below_cell hb (HEB.out k hke)
      obtain ⟨sl, hsl⟩ := exists_str L[k]
      rw [strV_eq hsl] at d3
      have hlt' : (k : Int) < (j : Int) := by omega
      have hkl' : (k : Int) < (L.length : Int) := by omega
      have w1 : IntKind.i64.wrap ((k : Int) + 1) = (k : Int) + 1 := IntWalk.i64_in _ (by omega)
      by_cases q1 : K[k] = 2
      · have b1 : ((K[k] : Int) == 2) = true := by rw [q1]; rfl
        by_cases q2 : E[k] < 0
        · have b2 : decide ((0 : Int) ≤ E[k]) = false := by simp; omega
          have HX := Lib.hid (there_no (s := s.data.toList) hkk hke hkl (.inr (.inl q2)))
          clear q1 q2
          go_wp2_with fail
          go_roundw
          case rel =>
            refine ⟨k + 1, by omega, by go_num, fun k' hk' => ?_, hb⟩
            by_cases e : k' = k
            · subst e; exact HX.out
            · exact HN.out k' (by omega)
          case measure => simp only [intOf]; omega
        · have b2 : decide ((0 : Int) ≤ E[k]) = true := by simp; omega
          have hw2 := HD.out k hkk hke hkl q1 (by omega)
          have hsz : sl.size ≤ 4294967296 := by
            have := HL.out L[k] (List.getElem_mem hkl)
            rw [← size_len, hsl]; omega
          have Q1 := Lib.hid q1
          have Q2 := Lib.hid q2
          have HSL := Lib.hid hsl
          clear q1 q2 hsl
          go_wp2_with fail
          refine (rwords_any sl wr hsz).mono ?_
          rintro e w1 ⟨g, cap, rfl, hW, hb1⟩
          rw [HSL.out] at hW ⊢
          obtain ⟨s1, hs1, hc1⟩ := hW.str 1 (by omega)
          have hi1 : (1 : Int) < ((Drl.words L[k]).length : Int) := by omega
          have hb2 := hb.trans (hb1.mono hb.size)
          have HB2 := Lib.hid hb2
          clear hW hb1 hb2
          by_cases q3 : Drl.wd (Drl.words L[k]) 1 = s.data.toList
          · have b3 : (s1.toList == s.toList) = true := eq_yes hs1 (q3.trans (toList_data s).symm)
            have HY := Lib.hid (there_yes (s := s.data.toList) hkk hke hkl ⟨Q1.out, by have := Q2.out; omega, q3⟩)
            clear q3 hs1
            go_wp2_with fail
            go_ret
            exact ⟨_, rfl, .inl ⟨k, hlt, HY.out, rfl⟩, HB2.out⟩
          · have b3 : (s1.toList == s.toList) = false := eq_no hs1 (fun e => q3 (e.trans (toList_data s)))
            have HX := Lib.hid (there_no (s := s.data.toList) hkk hke hkl (.inr (.inr q3)))
            clear q3 hs1
            go_wp2_with fail
            go_roundw
            case rel =>
              refine ⟨k + 1, by omega, by go_num, fun k' hk' => ?_, HB2.out⟩
              by_cases e : k' = k
              · subst e; exact HX.out
              · exact HN.out k' (by omega)
            case measure => simp only [intOf]; omega
      · have b1 : ((K[k] : Int) == 2) = false := by simp; omega
        have HX := Lib.hid (there_no (s := s.data.toList) hkk hke hkl (.inl q1))
        clear q1
        go_wp2_with fail
        go_roundw
        case rel =>
          refine ⟨k + 1, by omega, by go_num, fun k' hk' => ?_, hb⟩
          by_cases e : k' = k
          · subst e; exact HX.out
          · exact HN.out k' (by omega)
        case measure => simp only [intOf]; omega
    · have hlt' : ¬ (k : Int) < (j : Int) := by omega
      go_wp2_with fail
      go_ret
      exact ⟨_, rfl, .inr ⟨fun k' hk' => HN.out k' (by omega), rfl⟩, hb⟩
end Go.Proofs.YtfbmlnkgjgnnhaaGreatDoor
