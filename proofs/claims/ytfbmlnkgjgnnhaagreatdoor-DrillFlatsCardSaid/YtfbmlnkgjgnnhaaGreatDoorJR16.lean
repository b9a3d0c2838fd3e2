import Derived.Test.YtfbmlnkgjgnnhaaGreatDoorJR15z
import Derived.Test.YtfbmlnkgjgnnhaaGreatDoorJA27
set_option linter.unusedSimpArgs false
set_option linter.unusedVariables false
namespace Go.Proofs.YtfbmlnkgjgnnhaaGreatDoor
open Go.RowKit

set_option maxRecDepth 100000
set_option maxHeartbeats 4000000

theorem unroll_readOut {k : Nat} {text : Drl.Str} {r : Except Drl.Err (List Drl.Dr × Nat)} (h : Drl.unroll k text = some r) :
    (∃ x, Drl.readOut text = .error x ∧ r = .error x) ∨ ∃ fs q, Drl.readOut text = .ok fs ∧ Drl.headB (Drl.lines text) = true ∧ text.length ≤ 65536 ∧ Drl.run fs.ar k (.seq (Drl.nd fs.ar 0).body Drl.noNums) {} = some q ∧ r = Drl.ansOf (Drl.headN (Drl.lines text)).toNat q := by
  unfold Drl.unroll at h
  unfold Drl.readOut
  split at h
  · next h0 => exact .inl ⟨_, by rw [if_pos h0], (Option.some.inj h).symm⟩
  · next h0 =>
    rw [if_neg h0]
    split at h
    · next h1 => exact .inl ⟨_, by rw [if_pos h1], (Option.some.inj h).symm⟩
    · next h1 =>
      rw [if_neg h1]
      split at h
      · next x hx => exact .inl ⟨x, hx, (Option.some.inj h).symm⟩
      · next fs hx =>
        refine .inr ⟨fs, ?_⟩
        split at h
        · cases h
        · next x hq => exact ⟨_, hx, by simpa using h1, by omega, hq, (Option.some.inj h).symm⟩
        · next st hq => exact ⟨_, hx, by simpa using h1, by omega, hq, (Option.some.inj h).symm⟩

theorem lst_of {L : List Drl.Str} {K : List Nat} {i : Nat} {E : List Int} {fs : Drl.RSt} (h : Drl.Rel L K i E [] fs) : Drl.Lst K E fs.ar 0 i (Drl.nd fs.ar 0).body := by
  obtain ⟨tl, ho, _⟩ := h.good.inv.opn0
  have h1 := h.opn_
  rw [ho] at h1
  have h2 : tl = [] := by
    cases tl with
    | nil => rfl
    | cons a r => simp at h1
  subst h2
  obtain ⟨t, r, e, hl, _⟩ := h.chain
  rw [ho] at e
  simp only [List.reverse_cons, List.reverse_nil, List.nil_append, List.cons.injEq] at e
  obtain ⟨rfl, _⟩ := e
  exact hl

theorem errSh_cell {w : World} {R : Nat} {lv kv ev : Value} {x : Drl.Err} (h : ErrSh w R lv kv ev x) : w.cell? ⟨R, 0, none⟩ = some lv := by
  obtain ⟨_, cl, sv, tn, sd, hb⟩ := h
  exact cell_of hb rfl
theorem letOnly_none : Drl.LetOnly Drl.noNums := fun c _ => by unfold Drl.noNums; decide
theorem below_undrew {B : Nat} {a w : World} (h : Below B a w.drew) : Below B a w := ⟨h.os, h.tape, h.output, h.size, h.block⟩

theorem runroll_err (s : ByteArray) (w : World) (x : Drl.Err) (hx : Drl.readOut s.data.toList = .error x) : Calls Tryz.prog 8 #[.string s] w (RUnrollPost w (.error x)) := by
  have HX := Lib.hid hx
  clear hx
  go_enter Tryz.func8, Tryz.ntmps8
  go_wp2_with fail
  refine (rread_any s w).mono ?_
  rintro e w1 ⟨rfl, hb, hm⟩
  rw [HX.out] at hm
  obtain ⟨lv, kv, ev, hne, cl, sv, tn, sd, hblk⟩ := hm
  have c7 : w1.cell? ⟨w.heap.size, 7, none⟩ = some (.int .i64 (x.2 : Nat)) := cell_of hblk rfl
  have c8 : w1.cell? ⟨w.heap.size, 8, none⟩ = some (.int .i64 (x.1 : Nat)) := cell_of hblk rfl
  have e7 : ((x.2 : Int) == 0) = false := by simp; omega
  have e7' : ((x.2 : Int) != 0) = true := by simp [bne]; omega
  have HB := Lib.hid hb
  have HNE := Lib.hid hne
  obtain ⟨c, hc⟩ : ∃ c : Int, c = (x.2 : Nat) := ⟨_, rfl⟩
  obtain ⟨a, ha⟩ : ∃ a : Int, a = (x.1 : Nat) := ⟨_, rfl⟩
  have HC := Lib.hid hc
  have HA := Lib.hid ha
  rw [← hc] at c7 e7 e7'
  rw [← ha] at c8
  clear hb hblk hne hc ha
  go_wp2_with fail
  go_quiet (fail)
  go_wp2_with fail
  refine bodyPost_ret (v := .tuple #[.slice none 0 0, .int .i64 0, .int .i64 c, .int .i64 a]) (by simp [results, Tryz.results8, go_sem]) rfl ⟨below_dN HB.out _, ?_, HNE.out⟩
  rw [HC.out, HA.out]

theorem runroll_fine (s : ByteArray) (w : World) (k : Nat) (fs : Drl.RSt) (q : Except Drl.Err Drl.PSt) (hx : Drl.readOut s.data.toList = .ok fs) (hh : Drl.headB (Drl.lines s.data.toList) = true) (hs : s.size ≤ 65536)
    (hq : Drl.run fs.ar k (.seq (Drl.nd fs.ar 0).body Drl.noNums) {} = some q) : Calls Tryz.prog 8 #[.string s] w (RUnrollPost w (Drl.ansOf (Drl.headN (Drl.lines s.data.toList)).toNat q)) := by
  have HX := Lib.hid hx
  have HH := Lib.hid hh
  have HQ := Lib.hid hq
  clear hx hh hq
  go_enter Tryz.func8, Tryz.ntmps8
  go_wp2_with fail
  refine (rread_any s w).mono ?_
  rintro e w1 ⟨rfl, hb, hm⟩
  rw [HX.out] at hm
  obtain ⟨lv, kv, ev, K, E, hrd, hrel⟩ := hm
  have hll := LL_ok s.data.toList
  rw [size_len] at hll
  obtain ⟨L, hL⟩ : ∃ L, Drl.LL s.data.toList = L := ⟨_, rfl⟩
  rw [hL] at hrd hrel hll
  have hpos : 0 < L.length := by
    rcases Nat.eq_zero_or_pos L.length with h0 | h0
    · exfalso
      have hl0 : (Drl.LL s.data.toList).length = 0 := by rw [hL]; exact h0
      unfold Drl.LL at hl0
      rw [List.length_map] at hl0
      have := HH.out
      unfold Drl.lines at this
      rw [List.eq_nil_of_length_eq_zero hl0] at this
      simp [Drl.linesFrom, Drl.headB] at this
    · exact h0
  have hsh := hrd.sh hrel.lenK hrel.lenE hpos
  obtain ⟨lb, lc, rfl, _⟩ := (RowT.of_own (B := w.heap.size) (l := L.map strV) (by rw [List.length_map]; exact hrd.rl)).row (by rw [List.length_map]; exact hpos)
  obtain ⟨kb, kc, rfl, _⟩ := (RowT.of_own (B := w.heap.size) (l := K.map intV) (by rw [List.length_map]; exact hrd.rk)).row (by rw [List.length_map, hrel.lenK]; exact hpos)
  obtain ⟨eb, ec, rfl, _⟩ := (RowT.of_own (B := w.heap.size) (l := E.map (Value.int .i64)) (by rw [List.length_map]; exact hrd.re)).row (by rw [List.length_map, hrel.lenE]; exact hpos)
  simp only [List.length_map, hrel.lenK, hrel.lenE] at hsh hrd
  have hwt : WAt w1 w.heap.size w.heap.size (.slice (some ⟨lb, 0, none⟩) L.length lc) (.slice (some ⟨kb, 0, none⟩) L.length kc) (.slice (some ⟨eb, 0, none⟩) L.length ec) (Drl.headN (Drl.lines s.data.toList)) (.slice none 0 0) {} :=
    ⟨hrd.blk, World.ownsRow_nil _ _ _ _, Nat.le_refl _, by decide, by decide⟩
  have hN := (Drl.headB_n HH.out).1
  have HN := Lib.hid (show ((Drl.headN (Drl.lines s.data.toList)).toNat : Int) = Drl.headN (Drl.lines s.data.toList) by omega)
  obtain ⟨cl, hcl⟩ : ∃ cl, Drl.headN (Drl.lines s.data.toList) = cl := ⟨_, rfl⟩
  rw [hcl] at hwt hrd HN
  have HCLE := Lib.hid hcl
  clear hcl
  have hF : Fin L K E fs := ⟨hrel, by omega, fun t ht => by have := hll.2 t ht; omega⟩
  have HF := Lib.hid hF
  have HL := Lib.hid (lst_of hrel)
  have HSH := Lib.hid (hsh.next (below_drew (Below.refl _ _)))
  have HWT := Lib.hid (hwt.next (below_drew (Below.refl _ _)))
  have HB := Lib.hid (below_drew hb)
  have c7 : w1.cell? ⟨w.heap.size, 7, none⟩ = some (.int .i64 0) := cell_of hwt.at_ rfl
  have hbs : w.heap.size ≤ w1.heap.size := hb.size
  obtain ⟨R, hR⟩ : ∃ R, R = w.heap.size := ⟨_, rfl⟩
  have HRw := Lib.hid hR
  rw [← hR] at HWT HSH HB c7 hbs ⊢
  clear hb hsh hrd hwt hrel hF hll hN HX HH hL hR
  cases q with
  | error x =>
    go_wp2_with fail
    go_region_held3 (fun w' => w'.cell? ⟨R, 0, none⟩ = some (.slice (some ⟨lb, 0, none⟩) L.length lc))
      (first
        | exact cell_of HWT.out.at_ rfl
        | exact errSh_cell hE
        | exact cell_of (HWT.out.next hb1).at_ rfl)
      ((first
        | (go_at_call 26; refine (rnone_any _).mono ?_; rintro e w2 ⟨rfl, hb1⟩)
        | (go_at_call 25; have hst := HSH.out.next hb1; have hwt := HWT.out.next hb1; have hD5 := Left.next (Left.refl R R _) hbs ((below_drew (Below.refl _ _)).trans hb1); refine (rwalk_all k _ R R lb lc kb kc eb ec cl (.slice none 0 0) {} L K E fs 0 L.length _ Drl.noNums _ hst hwt HF.out HL.out (Nat.le_refl _) letOnly_none (fun c => by unfold Drl.noNums; decide) HQ.out).mono ?_; rintro e w5 ⟨⟨hL5, hE⟩, rfl⟩)))
    obtain ⟨hne, cl', sv', tn', sd', hblk⟩ := hE
    have d7 : w5.cell? ⟨R, 7, none⟩ = some (.int .i64 (x.2 : Nat)) := cell_of hblk rfl
    have d8 : w5.cell? ⟨R, 8, none⟩ = some (.int .i64 (x.1 : Nat)) := cell_of hblk rfl
    have e7 : ((x.2 : Int) != 0) = true := by simp [bne]; omega
    have HLE := Lib.hid ((below_undrew HB.out).trans (hD5.trans hL5).below)
    have HNE := Lib.hid hne
    obtain ⟨c, hc⟩ : ∃ c : Int, c = (x.2 : Nat) := ⟨_, rfl⟩
    obtain ⟨a, ha⟩ : ∃ a : Int, a = (x.1 : Nat) := ⟨_, rfl⟩
    have HC := Lib.hid hc
    have HA := Lib.hid ha
    rw [← hc] at d7 e7
    rw [← ha] at d8
    clear hblk hne hc ha
    go_wp2_with fail
    go_quiet (fail)
    go_wp2_with fail
    refine bodyPost_ret (v := .tuple #[.slice none 0 0, .int .i64 0, .int .i64 c, .int .i64 a]) (by simp [results, Tryz.results8, go_sem]) rfl ⟨?_, ?_, HNE.out⟩
    · rw [← HRw.out]; exact below_dN HLE.out _
    · rw [HC.out, HA.out]
  | ok st5 =>
    go_wp2_with fail
    go_region_held3 (fun w' => w'.cell? ⟨R, 0, none⟩ = some (.slice (some ⟨lb, 0, none⟩) L.length lc))
      (first
        | exact cell_of HWT.out.at_ rfl
        | exact cell_of hE.choose_spec.at_ rfl
        | exact cell_of (HWT.out.next hb1).at_ rfl)
      ((first
        | (go_at_call 26; refine (rnone_any _).mono ?_; rintro e w2 ⟨rfl, hb1⟩)
        | (go_at_call 25; have hst := HSH.out.next hb1; have hwt := HWT.out.next hb1; have hD5 := Left.next (Left.refl R R _) hbs ((below_drew (Below.refl _ _)).trans hb1); refine (rwalk_all k _ R R lb lc kb kc eb ec cl (.slice none 0 0) {} L K E fs 0 L.length _ Drl.noNums _ hst hwt HF.out HL.out (Nat.le_refl _) letOnly_none (fun c => by unfold Drl.noNums; decide) HQ.out).mono ?_; rintro e w5 ⟨⟨hL5, hE⟩, rfl⟩)))
    obtain ⟨sv5, hw5⟩ := hE
    have d7 : w5.cell? ⟨R, 7, none⟩ = some (.int .i64 0) := cell_of hw5.at_ rfl
    have d4 : w5.cell? ⟨R, 4, none⟩ = some sv5 := cell_of hw5.at_ rfl
    have d3 : w5.cell? ⟨R, 3, none⟩ = some (.int .i64 cl) := cell_of hw5.at_ rfl
    have HLE := Lib.hid ((below_undrew HB.out).trans (hD5.trans hL5).below)
    have HW5 := Lib.hid hw5
    clear hw5
    go_wp2_with fail
    go_quiet (fail)
    go_wp2_with fail
    refine bodyPost_ret (v := .tuple #[sv5, .int .i64 cl, .int .i64 0, .int .i64 0]) (by simp [results, Tryz.results8, go_sem]) rfl ⟨?_, sv5, ?_, ?_⟩
    · rw [← HRw.out]; exact below_dN HLE.out _
    · show Ending.returned (.tuple #[sv5, .int .i64 cl, .int .i64 0, .int .i64 0]) = .returned (.tuple #[sv5, .int .i64 ((Drl.headN (Drl.lines s.data.toList)).toNat : Nat), .int .i64 0, .int .i64 0])
      rw [HCLE.out, HN.out]
    · rw [← HRw.out]; exact StepsOwn.next (show StepsOwn w5 R sv5 st5.steps from HW5.out.row) (below_dN (Below.refl _ _) _)

theorem runroll_ok (k : Nat) (s : ByteArray) (w : World) (r : Except Drl.Err (List Drl.Dr × Nat)) (hr : Drl.unroll k s.data.toList = some r) : Calls Tryz.prog 8 #[.string s] w (RUnrollPost w r) := by
  rcases unroll_readOut hr with ⟨x, h1, rfl⟩ | ⟨fs, q, h1, h2, h3, h4, rfl⟩
  · exact runroll_err s w x h1
  · exact runroll_fine s w k fs q h1 h2 (by rw [size_len] at h3; exact h3) h4
end Go.Proofs.YtfbmlnkgjgnnhaaGreatDoor
