import Derived.Test.YtfbmlnkgjgnnhaaGreatDoorJR15b
set_option linter.unusedSimpArgs false
set_option linter.unusedVariables false
namespace Go.Proofs.YtfbmlnkgjgnnhaaGreatDoor
open Go.RowKit

set_option maxRecDepth 100000
set_option maxHeartbeats 4000000

theorem rread_any (s : ByteArray) (w : World) :
    Calls Tryz.prog 24 #[.string s] w (RReadPost s w w.heap.size) := by
  obtain ⟨i0, hi, hz0, hz1, hz2⟩ := info_parts info_string
  by_cases hbig : 65536 < s.size
  · have h65 : (65536 : Int) < (s.size : Int) := by omega
    go_enter Tryz.func24, Tryz.ntmps24
    go_wp2_with fail
    go_ret
    refine ⟨rfl, (Below.refl _ w).alloc (Nat.le_refl _) _, ?_⟩
    have hr : Drl.readOut s.data.toList = .error (65536, 150) := by
      unfold Drl.readOut
      rw [if_pos (by rw [size_len]; exact hbig)]
    rw [hr]
    exact ⟨.slice none 0 0, .slice none 0 0, .slice none 0 0, (by dsimp only; omega), 0, .slice none 0 0, 0, false, heap_new w _⟩
  have hs : s.size ≤ 65536 := by omega
  have h65 : ¬ (65536 : Int) < (s.size : Int) := by omega
  go_enter Tryz.func24, Tryz.ntmps24
  go_wp2_with fail
  rename_i K1 hK1
  have HK1 := Lib.hid hK1
  clear hK1
  go_loopw [4, 5] (fun fv iv wr => ∃ (k f : Nat) (acc : List Drl.Str) (lv : Value), iv = .int .i64 k ∧ fv = .int .i64 f ∧ Cut s w w.heap.size wr k f acc lv) (fun _ iv _ => s.size - (intOf iv).toNat)
  case atStart =>
    refine ⟨0, 0, [], .slice none 0 0, rfl, rfl, by omega, by omega, by simp, ⟨heap_new _ _, World.ownsRow_nil _ _ _ _, World.ownsRow_nil _ _ _ _, World.ownsRow_nil _ _ _ _, fun g hg => by simp [Value.ownBlock] at hg, Nat.le_refl _⟩, (Below.refl _ w).alloc (Nat.le_refl _) _, fun _ _ _ h => by omega, by simp [Drl.LL]⟩
  case round =>
    obtain ⟨k, f, acc, lv, rfl, rfl, hC⟩ := hrel
    obtain ⟨R, hR⟩ : ∃ R, w.heap.size = R := ⟨_, rfl⟩
    rw [hR] at hC
    have HC := Lib.hid hC
    have hk := hC.hk
    have hf := hC.hf
    have hal := hC.hl
    obtain ⟨ao, cv, rfl⟩ := own_form hC.rd.rl
    have c0 : wr.cell? ⟨R, 0, none⟩ = some (.slice ao acc.length cv) := cell_of hC.rd.blk rfl
    clear hC
    by_cases hlt : k < s.size
    · have w1 : IntKind.i64.wrap ((k : Int) + 1) = (k : Int) + 1 := IntWalk.i64_in _ (by omega)
      by_cases h10 : (s[k]'hlt).toNat = 10
      · have e10 : (((s[k]'hlt).toNat : Int) == 10) = true := by simp; omega
        have H10 := Lib.hid h10
        have q1 : (f : Int) ≤ (k : Int) := by omega
        have q2 : (k : Int) ≤ (s.size : Int) := by omega
        obtain ⟨t, ht⟩ := exists_str (Drl.trim (s.extract f k).data.toList)
        have hs1 : ∀ W : World, Calls Tryz.prog 41 #[.string (s.extract f k)] W fun e w' => e = .returned (.string t) ∧ W = w' := by
          intro W
          have := rtrim_any (s.extract f k) W (by simp; omega)
          rw [← ht, strV_data] at this
          exact this
        have HT := Lib.hid ht
        have HS1 := Lib.hid hs1
        have j1 : ∀ o, (wr.alloc o).cell? ⟨R, 0, none⟩ = some (.slice ao acc.length cv) := fun o => cell_old c0
        clear h10 ht hs1
        rw [hR]
        go_wp2_with fail
        go_region_law
          (first
            | (go_simp; go_at_call 41; refine (HS1.out _).mono ?_; rintro e w' ⟨rfl, rfl⟩)
            | (refine step_append_lies _ rfl (.tmp 39) (.tmp 45) 57 rfl R 9 i0 _ 1 16 Tryz.underlying57 hi hz0 hz1 hz2 rfl (by decide) (.slice ao acc.length cv) acc.length (acc.map strV) rfl (by exact HC.out.rd.rl.alloc _) ⟨wr.heap.size, 0, none⟩ 1 1 [.string t] rfl rfl (World.news_of_block (heap_new wr _)) (by simp [Value.oneCell']) (by decide) (by unfold maxLen; omega) (by omega) (by have := HC.out.rd.lt; simp; omega) _ rfl ?_; intro g cap w1 hown1 hgrow hat hglt; have hown2 : w1.ownsRow R 9 1 (.slice (some ⟨g, 0, none⟩) (acc.length + 1) cap) (acc.length + 1) (acc.map strV ++ [strV (Drl.trim (s.extract f k).data.toList)]) := (by rw [strV_eq HT.out]; exact hown1); have hP := (HC.out.rd.next (below_drew (Below.refl _ wr))).pushL _ hown2 hgrow; have p3 := hP.2.2.1; have p4 := hP.2.2.2; have HP := Lib.hid hP; clear hP hown2))
        all_goals
          have hb1 := HP.out.2.1
          have HPR := Lib.hid HP.out.1
          have HB1 := Lib.hid (HC.out.keep.trans ((below_drew (Below.refl R wr)).trans hb1))
          clear p3 p4 c0 j1 hb1 HP hgrow hown1 hat
          go_wp2_with fail
          go_round
          case rel =>
            refine ⟨k + 1, k + 1, acc ++ [Drl.trim (s.extract f k).data.toList], .slice (some ⟨g, 0, none⟩) (acc.length + 1) cap, by go_num, by go_num, ?_⟩
            refine ⟨by omega, by omega, by simp; omega, HPR.out, HB1.out, fun _ _ _ h => by omega, ?_⟩
            rw [← HC.out.sum, raw_hit s f k hlt hf HC.out.no H10.out, extract_list s f k (by omega)]
            simp
          case measure => simp only [intOf]; omega
      · have e10 : (((s[k]'hlt).toNat : Int) == 10) = false := by simp; omega
        have H10 := Lib.hid h10
        clear h10
        rw [hR]
        go_wp2_with fail
        go_round
        case rel =>
          refine ⟨k + 1, f, acc, .slice ao acc.length cv, by go_num, rfl, ?_⟩
          refine ⟨by omega, by omega, hal, HC.out.rd, HC.out.keep, fun j hj h1 h2 => ?_, HC.out.sum⟩
          by_cases e : j = k
          · subst e; exact H10.out
          · exact HC.out.no j hj h1 (by omega)
        case measure => simp only [intOf]; omega
    · rw [hR]
      have hk' : k = s.size := by omega
      subst hk'
      go_wp2_with fail
      refine HK1.out _ _ ?_
      subst hR
      exact rread_tail1 s w _ _ rfl _ wr f acc _ _ hs RFr.intro HC.out
end Go.Proofs.YtfbmlnkgjgnnhaaGreatDoor
