import Derived.Test.YtfbmlnkgjgnnhaaGreatDoorJA17
import Derived.Deep.RegionLaw
import Derived.Deep.RegionHeld3
set_option linter.unusedSimpArgs false
set_option linter.unusedVariables false
namespace Go.Proofs.YtfbmlnkgjgnnhaaGreatDoor
open Go.RowKit
set_option linter.unusedVariables false

set_option maxRecDepth 100000
set_option maxHeartbeats 2000000

theorem step_ok (w : World) (B R N V bw : Nat) (sv bv uv : Value) (st : Drl.PSt) (h : RunAt w B R sv st) (hB : 10 ≤ B) (hE : Env w) (ad : Nat → Nat) (n : Drl.Nd) (v : Drl.Nums) (hN : NumsAt w V v) (hv : ∀ c, v c ≤ 999999)
    (hn : w.heap[N]? = some (.cells #[.int .i64 n.at_, strV n.text, .slice (some ⟨bw, 0, none⟩) n.ws.length n.ws.length, .int .u8 n.letter.toNat, bv, uv] 62 (0, 0))) (hw : WordsIn w bw n.ws) (h1 : 1 ≤ n.ws.length) (hs : n.text.length ≤ 65536) (hx6 : Drl.wd n.ws 0 = Drl.wExpect → 6 ≤ n.text.length) :
    Calls Tryz.prog 40 #[.pointer (some ⟨R, 0, none⟩), .pointer (some ⟨N, 0, none⟩), .pointer (some ⟨V, 0, none⟩)] w (PlayPost w B R (Drl.step n v st)) := by
  obtain ⟨sx, hsx⟩ := exists_str n.text
  rw [strV_eq hsx] at hn
  have hsz : sx.size ≤ 65536 := by rw [← size_len, hsx]; exact hs
  have c0 : w.cell? ⟨N, 0, none⟩ = some (.int .i64 n.at_) := cell_of hn rfl
  have c1 : w.cell? ⟨N, 1, none⟩ = some (.string sx) := cell_of hn rfl
  have HN := Lib.hid hN
  have HE := Lib.hid hE
  have HH := Lib.hid h
  have HND := Lib.hid hn
  have HW := Lib.hid hw
  clear hN hE h hn hw
  have hNlt : N < w.heap.size := lt_of HND.out
  go_enter Tryz.func40, Tryz.ntmps40
  go_wp2_with fail
  rename_i K hK
  have hcut : ∀ (b : Nat) (W : World), W.heap[b]? = some (.cells #[.int .i64 n.at_, .string ⟨(Drl.filled v n.text).toArray⟩, .bool false] 37 (0, 0)) → w.heap.size ≤ b → Below w.heap.size w W → K { tmps := #[.pointer (some ⟨R, 0, none⟩), .pointer (some ⟨N, 0, none⟩), .pointer (some ⟨V, 0, none⟩), undef, undef, undef, .nilIface, .pointer (some ⟨b, 0, none⟩), .pointer (some ⟨N, 0, none⟩), .pointer (some ⟨N, 0, none⟩), .pointer (some ⟨N, 0, none⟩), .pointer (some ⟨N, 0, none⟩), .int .i64 n.at_, .pointer (some ⟨V, 0, none⟩), .pointer (some ⟨N, 0, none⟩), .pointer (some ⟨N, 0, none⟩), .pointer (some ⟨N, 0, none⟩), .pointer (some ⟨N, 1, none⟩), .string sx, .string ⟨(Drl.filled v n.text).toArray⟩, .agg #[.int .i64 n.at_, .string ⟨(Drl.filled v n.text).toArray⟩, .bool false], undef, undef, undef, undef, undef, undef, undef, undef, undef, undef, undef, undef, undef, undef, undef, undef, undef, undef, undef, undef, undef, undef, undef, undef, undef, undef, undef, undef, undef, undef, undef, undef, undef, undef, undef, undef, undef, undef, undef, undef, undef, undef, undef, undef, undef, undef, undef, undef, undef, undef, undef, undef, undef, undef, undef, undef, undef, undef, undef], defers := [] } W := by
    intro b W hb hbw hW
    refine hK _ _ ?_
    clear hK
    have hRW := HH.out.next hW
    have HB := Lib.hid hb
    have HWB := Lib.hid hW
    have hND := (hW.block N hNlt).trans HND.out
    have hbw2 := lt_of HW.out
    have hWW : WordsIn W bw n.ws := (hW.block bw hbw2).trans HW.out
    refine wp_seq_k (fun K2 hK2 => ?_)
    have HK2 := Lib.hid hK2
    clear hK2
    have hcut2 : ∀ (W3 : World) (f : ByteArray) (want : Bool) (x21 x22 x23 x24 x25 x26 x27 x28 x29 x30 x31 x32 x33 x34 x35 x36 x37 x38 x39 : Value), W3.heap[b]? = some (.cells #[.int .i64 n.at_, .string f, .bool want] 37 (0, 0)) → Below w.heap.size w W3 → (⟨n.at_, f.data.toList, want⟩ : Drl.Dr) = Drl.drOf n v → K2 { tmps := #[.pointer (some ⟨R, 0, none⟩), .pointer (some ⟨N, 0, none⟩), .pointer (some ⟨V, 0, none⟩), undef, undef, undef, .nilIface, .pointer (some ⟨b, 0, none⟩), .pointer (some ⟨N, 0, none⟩), .pointer (some ⟨N, 0, none⟩), .pointer (some ⟨N, 0, none⟩), .pointer (some ⟨N, 0, none⟩), .int .i64 n.at_, .pointer (some ⟨V, 0, none⟩), .pointer (some ⟨N, 0, none⟩), .pointer (some ⟨N, 0, none⟩), .pointer (some ⟨N, 0, none⟩), .pointer (some ⟨N, 1, none⟩), .string sx, .string ⟨(Drl.filled v n.text).toArray⟩, .agg #[.int .i64 n.at_, .string ⟨(Drl.filled v n.text).toArray⟩, .bool false], x21, x22, x23, x24, x25, x26, x27, x28, x29, x30, x31, x32, x33, x34, x35, x36, x37, x38, x39, undef, undef, undef, undef, undef, undef, undef, undef, undef, undef, undef, undef, undef, undef, undef, undef, undef, undef, undef, undef, undef, undef, undef, undef, undef, undef, undef, undef, undef, undef, undef, undef, undef, undef, undef, undef, undef, undef, undef, undef], defers := [] } W3 := by
      intro W3 f want x21 x22 x23 x24 x25 x26 x27 x28 x29 x30 x31 x32 x33 x34 x35 x36 x37 x38 x39 hb3 hW3 hx
      refine HK2.out _ _ ?_
      clear HK2
      have hRW3 := HH.out.next hW3
      have r0 : W3.cell? ⟨R, 0, none⟩ = some sv := cell_of hRW3.at_ rfl
      have r1 : W3.cell? ⟨R, 1, none⟩ = some (.bool st.said) := cell_of hRW3.at_ rfl
      have m0 : W3.cell? ⟨N, 0, none⟩ = some (.int .i64 n.at_) := cell_of ((hW3.block N hNlt).trans HND.out) rfl
      have m2 : W3.cell? ⟨b, 2, none⟩ = some (.bool want) := cell_of hb3 rfl
      have hBw : B ≤ w.heap.size := by have := lt_of HH.out.at_; have := HH.out.base; omega
      have HRW := Lib.hid hRW3
      have HX := Lib.hid hx
      have HW3 := Lib.hid hW3
      have HB3 := Lib.hid hb3
      have hst4 := HH.out.steps
      obtain ⟨gs, cs, rfl⟩ : ∃ ao c, sv = .slice ao st.steps.length c := by
        rcases HH.out.row.2 with ⟨h1, h2⟩ | ⟨g, cap, cur, hv, _⟩
        · exact ⟨none, 0, by rw [h1, h2]⟩
        · exact ⟨_, _, hv⟩
      clear hRW3 hx hW3 hb3
      by_cases hsd : want = true ∧ st.said = false
      · obtain ⟨rfl, hs2⟩ := hsd
        rw [hs2] at r1
        go_wp2_with fail
        refine (wrap_any _ _ _).mono ?_
        rintro e w6 ⟨rfl, rfl⟩
        go_wp2_with fail
        go_ret
        have hr : Drl.step n v st = .error (n.at_, 296) := by simp only [Drl.step, ← HX.out]; simp [hs2]
        rw [hr]
        exact ⟨(Left.refl B R w).next hBw (HW3.out.alloc HW3.out.size _), _, rfl, _, rfl, heap_new _ _⟩
      · have hcs : want = false ∨ (want = true ∧ st.said = true) := by
          cases want <;> cases h2 : st.said <;> simp_all
        have HSD := Lib.hid hsd
        clear hsd
        have hbR : b ≠ R := ne_of_type HB3.out HRW.out.at_ (by decide)
        have zr : W3.frozen? ⟨R, 1, none⟩ = false := free_of HRW.out.at_ 1
        have hB4 : (W3.setCell ⟨R, 1, none⟩ (.bool true)).heap[b]? = some (.cells #[.int .i64 n.at_, .string f, .bool want] 37 (0, 0)) := (heap_set_other hbR _).trans HB3.out
        obtain ⟨hR4, hL4⟩ := HRW.out.said_
        by_cases e : st.steps.length = 4096
        · have e1 : ((st.steps.length : Int) == 4096) = true := by rw [e]; rfl
          have HE4 := Lib.hid e
          clear e hB4 hR4 hL4
          have hr : Drl.step n v st = .error (n.at_, 294) := by simp only [Drl.step, ← HX.out, if_neg HSD.out, if_pos HE4.out]
          rw [hr]
          clear hr
          rcases hcs with rfl | ⟨rfl, hs2⟩
          all_goals (try rw [hs2] at r1)
          all_goals (go_wp2_with fail)
          all_goals (refine (wrap_any _ _ _).mono ?_)
          all_goals (rintro e w6 ⟨rfl, rfl⟩)
          all_goals (go_wp2_with fail)
          all_goals go_ret
          all_goals exact ⟨(Left.refl B R w).next hBw (HW3.out.alloc HW3.out.size _), _, rfl, _, rfl, heap_new _ _⟩
        · have e1 : ((st.steps.length : Int) == 4096) = false := by simp; omega
          have HE4 := Lib.hid e
          clear e
          have hr : Drl.step n v st = .ok { st with steps := st.steps ++ [⟨n.at_, f.data.toList, want⟩], said := true } := by simp only [Drl.step, ← HX.out, if_neg HSD.out, if_neg HE4.out]
          rw [hr]
          clear hr
          have hlt4 : st.steps.length < 4096 := by have := HE4.out; omega
          obtain ⟨g', c', w7, hr, hz, hcc, hR7, hL7⟩ := hR4.drew.put (by exact hlt4) ⟨n.at_, f.data.toList, want⟩
          dsimp only at hr hz hcc hR7 hL7
          rw [strV_data] at hr
          have hr' : (Builtin.append_ #[22, 22] 22 #[.slice gs st.steps.length cs, .slice (some ⟨W3.heap.size, 0, none⟩) 1 1]).run Tryz.prog ((W3.setCell ⟨R, 1, none⟩ (.bool true)).alloc (.cells #[.int .i64 n.at_, .string f, .bool want] 37)).drew = .ok (.slice (some ⟨g', 0, none⟩) (st.steps.length + 1) c') w7 := by
            have hsz : (W3.setCell ⟨R, 1, none⟩ (.bool true)).drew.heap.size = W3.heap.size := size_setCell W3 _ _
            rw [hsz] at hr
            exact hr
          have t0 : (W3.setCell ⟨R, 1, none⟩ (.bool true)).cell? ⟨R, 0, none⟩ = some (.slice gs st.steps.length cs) := cell_of hR4.at_ rfl
          have t1 : ∀ o, ((W3.setCell ⟨R, 1, none⟩ (.bool true)).alloc o).cell? ⟨R, 0, none⟩ = some (.slice gs st.steps.length cs) := fun o => cell_old t0
          have t2 : (W3.setCell ⟨R, 1, none⟩ (.bool true)).cell? ⟨b, 0, none⟩ = some (.int .i64 n.at_) := cell_of hB4 rfl
          have t3 : (W3.setCell ⟨R, 1, none⟩ (.bool true)).cell? ⟨b, 1, none⟩ = some (.string f) := cell_of hB4 rfl
          have t4 : (W3.setCell ⟨R, 1, none⟩ (.bool true)).cell? ⟨b, 2, none⟩ = some (.bool want) := cell_of hB4 rfl
          clear hr
          have HR7 := Lib.hid hR7
          have HL7 := Lib.hid hL7
          have HL4 := Lib.hid hL4
          clear hR7 hL7 hL4 hR4 hB4
          rcases hcs with rfl | ⟨rfl, hs2⟩
          all_goals (try rw [hs2] at r1)
          all_goals (go_wp2_with fail)
          all_goals
            go_region_law (refine step_append_at rfl (.tmp 74) (.tmp 76) 22 rfl ?_; refine ⟨_, _, hr', ?_⟩)
          all_goals (go_wp2_with fail)
          all_goals go_ret
          all_goals exact ⟨(((Left.refl B R w).next hBw HW3.out).trans (HL4.out.next (Nat.le_trans hBw HW3.out.size) (below_drew (Below.refl _ _)))).trans HL7.out, rfl, _, HR7.out⟩
    obtain ⟨s0, hs0, hc0⟩ := hWW.str 0 h1
    have h1' : (0 : Int) < (n.ws.length : Int) := by omega
    have d2 : W.cell? ⟨N, 2, none⟩ = some (.slice (some ⟨bw, 0, none⟩) n.ws.length n.ws.length) := cell_of hND rfl
    by_cases hxp : Drl.wd n.ws 0 = Drl.wExpect
    · have b0 := eq_yes hs0 hxp
      unfold Drl.wExpect at b0
      have z2 : W.frozen? ⟨b, 2, none⟩ = false := free_of hb 2
      have d3 : W.cell? ⟨b, 2, none⟩ = some (.bool false) := cell_of hb rfl
      have d4 : (W.setCell ⟨b, 2, none⟩ (.bool true)).cell? ⟨N, 1, none⟩ = some (.string sx) := cell_set_other (cell_of hND rfl) (by omega)
      have d5 : (6 : Int) ≤ (sx.size : Int) := by have := hx6 hxp; rw [← hsx, size_len] at this; omega
      have HXP := Lib.hid hxp
      clear hxp hs0 hRW hND
      go_wp2_with fail
      refine (Tryz.strings_TrimPrefix (sx.extract 6 sx.size) ⟨#[32]⟩ _).mono ?_
      rintro e w4 ⟨rfl, rfl⟩
      go_wp2_with fail
      have htk : List.take (sx.size - 6) (List.drop 6 n.text) = List.drop 6 n.text := List.take_of_length_le (by rw [List.length_drop, ← hsx, size_len]; exact Nat.le_refl _)
      rw [htk]
      have hW1 : Below w.heap.size w (W.setCell ⟨b, 2, none⟩ (.bool true)) := HWB.out.setCell hbw _
      refine (filled_any v V ⟨(Lib.trimPrefix (List.drop 6 n.text) [32]).toArray⟩ _ (HE.out.next hW1) ((hW1.block V HN.out.lt).trans HN.out) hv ?_).mono ?_
      · rw [size_of_list]
        have hd := List.length_drop (i := 6) (l := n.text)
        have ht : (Lib.trimPrefix (List.drop 6 n.text) [32]).length ≤ (List.drop 6 n.text).length := by
          unfold Lib.trimPrefix
          split
          · rw [List.length_drop]; omega
          · exact Nat.le_refl _
        omega
      rintro e w5 ⟨rfl, hb5⟩
      have g5 : w5.heap[b]? = some (.cells #[.int .i64 n.at_, .string ⟨(Drl.filled v n.text).toArray⟩, .bool true] 37 (0, 0)) := below_free hb5 (by rw [heap_set HB.out]; rfl)
      have z5 : w5.frozen? ⟨b, 1, none⟩ = false := free_of g5 1
      have d6 : w5.cell? ⟨b, 1, none⟩ = some (.string ⟨(Drl.filled v n.text).toArray⟩) := cell_of g5 rfl
      have HG5 := Lib.hid g5
      have HB5 := Lib.hid (hW1.trans (hb5.mono hW1.size))
      clear g5 hb5 hW1
      go_wp2_with fail
      refine hcut2 _ _ true _ _ _ _ _ _ _ _ _ _ _ _ _ _ _ _ _ _ _ (by rw [heap_set HG5.out]; rfl) (HB5.out.setCell hbw _) ?_
      unfold Drl.drOf
      rw [if_pos HXP.out]
    · have b0 := eq_no hs0 hxp
      unfold Drl.wExpect at b0
      have HXP := Lib.hid hxp
      clear hxp hs0 hRW hND
      go_wp2_with fail
      refine hcut2 W _ false _ _ _ _ _ _ _ _ _ _ _ _ _ _ _ _ _ _ _ HB.out HWB.out ?_
      unfold Drl.drOf
      rw [if_neg HXP.out]
  have E0 : Env w.drew := HE.out.next (below_drew (Below.refl _ _))
  have E1 : ∀ o, Env (w.drew.alloc o) := fun o => E0.next ((Below.refl _ _).alloc (Nat.le_refl _) _)
  have N0 : NumsAt w.drew V v := HN.out
  have N1 : ∀ o, NumsAt (w.drew.alloc o) V v := fun o => heap_old N0
  have E0 := Lib.hid E0
  have E1 := Lib.hid E1
  have N0 := Lib.hid N0
  have N1 := Lib.hid N1
  have c0' : w.drew.cell? ⟨N, 0, none⟩ = some (.int .i64 n.at_) := c0
  have j0 : ∀ o, (w.drew.alloc o).cell? ⟨N, 0, none⟩ = some (.int .i64 n.at_) := fun o => cell_old c0
  have j1 : ∀ o, (w.drew.alloc o).cell? ⟨N, 1, none⟩ = some (.string sx) := fun o => cell_old c1
  go_region_law
    (go_simp; go_at_call 68; refine (filled_any v V sx _ (by first | exact E0.out | exact E1.out _) (by first | exact N0.out | exact N1.out _) hv hsz).mono ?_; rintro e w1 ⟨rfl, hb1⟩; have p0 : w1.cell? ⟨N, 0, none⟩ = some (.int .i64 n.at_) := (by first | exact below_cell hb1 c0' | exact below_cell hb1 (j0 _)); have p1 : ∀ o, (w1.alloc o).cell? ⟨N, 0, none⟩ = some (.int .i64 n.at_) := fun o => cell_old p0; first
      | (have q1 : w1.heap[w.heap.size]? = some (.cells #[.int .i64 0, .string ⟨#[]⟩, .bool false] 37 (0, 0)) := below_free hb1 (heap_new w.drew _); have q2 := free_of q1 0; have q5 := cell_of (i := 0) q1 rfl; have q6 : ∀ v, (w1.setCell ⟨w.heap.size, 0, none⟩ v).cell? ⟨w.heap.size, 1, none⟩ = some (.string ⟨#[]⟩) := fun v => cell_of (heap_set q1 v) rfl; have q3 : ∀ v, (w1.setCell ⟨w.heap.size, 0, none⟩ v).frozen? ⟨w.heap.size, 1, none⟩ = false := fun v => free_of (heap_set q1 v) 1; have q7 : ∀ v v', ((w1.setCell ⟨w.heap.size, 0, none⟩ v).setCell ⟨w.heap.size, 1, none⟩ v').cell? ⟨w.heap.size, 2, none⟩ = some (.bool false) := fun v v' => cell_of (heap_set (heap_set q1 v) v') rfl; have q4 : ∀ v v', ((w1.setCell ⟨w.heap.size, 0, none⟩ v).setCell ⟨w.heap.size, 1, none⟩ v').frozen? ⟨w.heap.size, 2, none⟩ = false := fun v v' => free_of (heap_set (heap_set q1 v) v') 2)
      | skip)
  all_goals first
    | (refine hcut _ _ (heap_new w1 _) hb1.size ?_; exact ((below_drew (Below.refl _ w)).trans hb1).alloc hb1.size _)
    | (refine hcut _ _ ?_ (Nat.le_refl _) ?_
       · rw [heap_set (heap_set (heap_set q1 _) _)]; rfl
       · exact ((((below_drew (Below.refl _ w)).alloc (Nat.le_refl _) _).trans (hb1.mono (by simp))).setCell (Nat.le_refl _) _).setCell (Nat.le_refl _) _ |>.setCell (Nat.le_refl _) _)
end Go.Proofs.YtfbmlnkgjgnnhaaGreatDoor
