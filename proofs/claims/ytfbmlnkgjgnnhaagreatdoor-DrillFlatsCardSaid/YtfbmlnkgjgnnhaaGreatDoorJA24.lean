import Derived.Test.YtfbmlnkgjgnnhaaGreatDoorJA22
import Derived.Test.YtfbmlnkgjgnnhaaGreatDoorJP17
set_option linter.unusedSimpArgs false
set_option linter.unusedVariables false
namespace Go.Proofs.YtfbmlnkgjgnnhaaGreatDoor
open Go.RowKit

set_option maxRecDepth 100000
set_option maxHeartbeats 2000000

theorem Good.of {ar : List Drl.Nd} (h : Drl.GoodAr ar) (hl : ar.length ≤ 65537) : Good ar :=
  ⟨h.pos, fun i hi n hn => by
    obtain ⟨a, k⟩ := h.body i hi n hn
    exact ⟨a, k.ws, k.small, k.rep, k.for_, k.use, k.exp, k.text⟩, h.uselt, fun i hi => by have := h.blen i hi; omega, h.letter⟩

/-- what Unroll leaves -/
def UnrollPost (w : World) (r : Except Drl.Err (List Drl.Dr × Nat)) (e : Ending) (w' : World) : Prop :=
  Below w.heap.size w w' ∧ match r with
    | .error x => ∃ v, e = .returned (.tuple #[.slice none 0 0, .int .i64 0, v]) ∧ ErrAt w' v x.1 x.2
    | .ok a => ∃ sv, e = .returned (.tuple #[sv, .int .i64 a.2, .nilIface]) ∧ w'.ownsRow w.heap.size 37 3 sv a.1.length (stepCells a.1)

theorem unroll_long (s : ByteArray) (w : World) (hs : 65536 < s.size) :
    Calls Tryz.prog 7 #[.string s] w (UnrollPost w (.error (65536, 150))) := by
  go_enter Tryz.func7, Tryz.ntmps7
  go_wp2_with (go_at_call 18; refine (wrap_any _ _ _).mono ?_; rintro e w' ⟨rfl, rfl⟩)
  go_ret3
  exact ⟨(Below.refl _ _).alloc (Nat.le_refl _) _, _, rfl, _, rfl, heap_new _ _⟩

theorem ReadIn.of {w : World} {g : Nat} {x : Drl.Ln} {r : List Drl.Ln} {L : Nat} (hL : L ≤ 65536) (h : LinesIn w g 0 (x :: r)) (hx : ∀ y ∈ r, Drl.LnOk L y) (hl : r.length ≤ L) (ao : Option Addr) (hao : r ≠ [] → ao = some ⟨g, 3, none⟩) : ReadIn w ao r :=
  ⟨by omega, fun hr => ⟨g, 3, hao hr, h.tail⟩, fun y hy => by
    obtain ⟨a, b, c⟩ := (hx y hy).small
    exact ⟨a, fun t ht => by have := b t ht; omega, by omega⟩⟩

theorem ret_three {sv : Value} {a b : Int} (h : a = b) : Ending.returned (.tuple #[sv, .int .i64 a, .nilIface]) = .returned (.tuple #[sv, .int .i64 b, .nilIface]) := by rw [h]
theorem play_B {w' : World} {Bt : Nat} {ad : Nat → Nat} {wv bv : Nat → Value} {ar : List Drl.Nd} (h : Nodes w' Bt ad wv bv ar) (h0 : 0 < ar.length) : w'.cell? ⟨ad 0, 4, none⟩ = some (bv 0) ∧ Nodes w' Bt ad wv bv ar :=
  ⟨cell_of (h.node 0 h0) rfl, h⟩

theorem unroll_ok (k : Nat) (s : ByteArray) (w : World) (hE : Env w) (r : Except Drl.Err (List Drl.Dr × Nat)) (hr : Drl.unroll k s.data.toList = some r) :
    Calls Tryz.prog 7 #[.string s] w (UnrollPost w r) := by
  unfold Drl.unroll at hr
  by_cases hs : 65536 < s.size
  · rw [if_pos (by rw [size_len]; exact hs)] at hr
    obtain rfl := Option.some.inj hr
    exact unroll_long s w hs
  · rw [if_neg (by rw [size_len]; exact hs)] at hr
    have hs' : s.size ≤ 65536 := by omega
    have hlo := Drl.lines_ok s.data.toList
    have HR := Lib.hid hr
    have HE := Lib.hid hE
    have HLO := Lib.hid hlo
    clear hr hE hlo
    go_enter Tryz.func7, Tryz.ntmps7
    go_wp2_with fail
    refine (lines_any s w HE.out hs').mono ?_
    rintro e w1 ⟨lv, rfl, hown, hb1⟩
    have HB1 := Lib.hid hb1
    have HOWN := Lib.hid hown
    clear hb1
    cases hl : Drl.lines s.data.toList with
    | nil =>
      obtain ⟨ao, cap, rfl⟩ : ∃ ao cap, lv = .slice ao 0 cap := by
        rw [hl] at hown
        rcases hown.at_ with ⟨rfl, _⟩ | ⟨g, cap, rfl, _⟩
        · exact ⟨_, _, rfl⟩
        · exact ⟨_, _, rfl⟩
      have HN := Lib.hid hl
      clear hl hown
      go_wp2_with fail
      refine (head_nil _ ao cap _ rfl).mono ?_
      rintro e w' ⟨rfl, rfl⟩
      have h0 : Drl.headB [] = false := rfl
      have h1 : Drl.headN [] = 0 := rfl
      rw [h0, h1]
      clear h0 h1
      go_wp2_with (go_at_call 18; refine (wrap_any _ _ _).mono ?_; rintro e w' ⟨rfl, rfl⟩)
      go_ret3
      have hr := HR.out
      rw [HN.out, if_pos (show Drl.headB [] = false from rfl)] at hr
      obtain rfl := Option.some.inj hr
      exact ⟨HB1.out.alloc HB1.out.size _, _, rfl, _, rfl, heap_new _ _⟩
    | cons x r1 =>
      obtain ⟨g, cap, rfl, hcap, hg, hin⟩ : ∃ g cap, lv = .slice (some ⟨g, 0, none⟩) (r1.length + 1) cap ∧ r1.length + 1 ≤ cap ∧ g < w1.heap.size ∧ LinesIn w1 g 0 (x :: r1) := by
        rw [hl] at hown
        rcases hown.at_ with ⟨_, h⟩ | ⟨g, cap, h1, h2, h3, h4⟩
        · cases h
        · exact ⟨g, cap, h1, h2, h3, h4⟩
      have hla : LineAt w1 g 0 x := hin 0 x rfl
      have hlo := HLO.out
      rw [hl] at hlo
      have hr := HR.out
      rw [hl] at hr
      have HN := Lib.hid hl
      have HIN := Lib.hid hin
      have HLA := Lib.hid hla
      have HLX := Lib.hid hlo
      have HRR := Lib.hid hr
      have hlen1 : r1.length < 65536 := by
        have := hlo.1
        rw [size_len] at this
        simp only [List.length_cons] at this
        omega
      clear hl hown hin hla hlo hr HR HLO HOWN
      go_wp2_with fail
      refine (head_cons g cap x r1 w1 HLA.out).mono ?_
      rintro e w2 ⟨rfl, hb2⟩
      have HB2 := Lib.hid (HB1.out.trans (hb2.mono HB1.out.size))
      have HB12 := Lib.hid hb2
      clear hb2 HB1
      cases hB : Drl.headB (x :: r1) with
      | false =>
        have hr := HRR.out
        rw [if_pos hB] at hr
        obtain rfl := Option.some.inj hr
        clear hr hB
        go_wp2_with (go_at_call 18; refine (wrap_any _ _ _).mono ?_; rintro e w' ⟨rfl, rfl⟩)
        go_ret3
        exact ⟨HB2.out.alloc HB2.out.size _, _, rfl, _, rfl, heap_new _ _⟩
      | true =>
        have hr := HRR.out
        rw [if_neg (by rw [hB]; decide)] at hr
        have HR2 := Lib.hid hr
        clear hr HRR
        generalize hN : Drl.headN (x :: r1) = N
        have HNN := Lib.hid (show (N.toNat : Int) = N by
          have := (Drl.headB_n hB).1
          rw [hN] at this
          omega)
        have HNE := Lib.hid hN
        clear hN hB
        have hlx := HLX.out
        have hin2 : LinesIn w2 g 0 (x :: r1) := HIN.out.keep HB12.out
        have HRI := Lib.hid (fun ao (h : r1 ≠ [] → ao = some ⟨g, 3, none⟩) => ReadIn.of (L := s.data.toList.length) (by rw [size_len]; exact hs') hin2 (fun y hy => hlx.2 y (by simp [hy])) (by have := hlx.1; simp only [List.length_cons] at this; omega) ao h)
        have HE2 := Lib.hid (HE.out.below HB2.out HE.out.size)
        clear hlx hin2
        have hcc : cap = 1 → r1 = [] := fun h => List.eq_nil_of_length_eq_zero (by omega)
        have HCC := Lib.hid hcc
        clear hcc
        have hgood : ∀ st, Drl.readFrom Drl.st0 r1 = .ok st → Good st.ar := fun st hst => by
          have hlx := HLX.out
          obtain ⟨h1, h2, _⟩ := Drl.read_ends (L := s.data.toList.length) (by rw [size_len]; exact hs') (fun y hy => hlx.2 y (by simp [hy])) hst
          exact Good.of h1.good (by rw [h2]; omega)
        have HGOOD := Lib.hid hgood
        clear hgood
        by_cases hc1 : cap = 1
        all_goals
          go_wp2_with fail
          refine (read_any _ _ r1 w2 (HRI.out _ (by first | exact fun _ => rfl | exact fun h => absurd (HCC.out hc1) h))).mono ?_
          rintro e w3 ⟨hb3, hm⟩
          have hr := HR2.out
          have HB3 := Lib.hid (HB2.out.trans (hb3.mono HB2.out.size))
          have HE3 := Lib.hid (HE.out.below HB3.out HE.out.size)
          have hbs3 : w.heap.size ≤ w3.heap.size := HB3.out.size
          have hbs2 : w.heap.size ≤ w2.heap.size := HB2.out.size
          have hws : 10 ≤ w.heap.size := HE.out.size
          clear hb3
          cases hrd : Drl.readFrom Drl.st0 r1 with
          | error x =>
            rw [hrd] at hm
            simp only [List.tail_cons, hrd] at hr
            obtain rfl := Option.some.inj hr
            obtain ⟨v, rfl, b, rfl, hb⟩ := hm
            have HBB := Lib.hid hb
            clear hr hb hrd
            go_wp2_with fail
            go_ret3
            exact ⟨HB3.out, _, rfl, _, rfl, HBB.out⟩
          | ok st =>
            rw [hrd] at hm
            simp only [List.tail_cons, hrd] at hr
            obtain ⟨Rb, Mb, ov, ad, wv, bv, he, hmem, hinv⟩ := hm
            rw [show nptr ad 0 = .pointer (some ⟨ad 0, 0, none⟩) from rfl] at he
            subst he
            have HG := Lib.hid (HGOOD.out st hrd)
            clear hrd
            have hpos : 0 < st.ar.length := HG.out.pos
            obtain ⟨w4, hw4⟩ : ∃ w4, w4 = w3.alloc (.cells #[.slice none 0 0, .bool false, .int .i64 0] 55) := ⟨_, rfl⟩
            have hn4 : w4.heap[w3.heap.size]? = some (.cells #[.slice none 0 0, .bool false, .int .i64 0] 55 (0, 0)) := by rw [hw4]; exact heap_new w3 _
            have hb34 : Below w3.heap.size w3 w4 := by rw [hw4]; exact (Below.refl _ w3).alloc (Nat.le_refl _) _
            have hS4 : Stand w4 w.heap.size w3.heap.size w2.heap.size (.slice none 0 0) {} ad wv bv st.ar :=
              ⟨HE3.out.next hb34, hws, ⟨hn4, World.ownsRow_nil _ _ _ _, hbs3, by decide, by decide⟩, hmem.nodes.next hb34⟩
            have HSd := Lib.hid (hS4.next (below_drew (Below.refl _ _)))
            have HB4 := Lib.hid (HB3.out.trans (hb34.mono hbs3))
            have hBr : w.heap.size ≤ w4.heap.size := HB4.out.size
            have HW4 := Lib.hid hw4
            clear hS4 hn4 hmem hinv hb34 hw4
            go_wp2_with fail
            rw [← HW4.out]
            clear HW4
            obtain ⟨R, hR⟩ : ∃ R, R = w3.heap.size := ⟨_, rfl⟩
            rw [← hR] at HSd ⊢
            clear hR HE3 HB3
            cases hq : Drl.run st.ar k (.seq (Drl.nd st.ar 0).body Drl.noNums) {} with
            | none => rw [hq] at hr; cases hr
            | some q =>
              rw [hq] at hr
              have HQ := Lib.hid hq
              clear hq
              cases q with
              | error x =>
                obtain rfl := Option.some.inj hr
                clear hr
                go_region_held3 (fun w' => w'.cell? ⟨ad 0, 4, none⟩ = some (bv 0) ∧ Nodes w' w2.heap.size ad wv bv st.ar)
                  (first
                    | exact play_B HSd.out.nodes hpos
                    | exact play_B (hst.nodes.left hL5 hst.run.at_) hpos
                    | exact play_B (HSd.out.nodes.next hb1) hpos)
                  ((first
                    | (go_at_call 23; refine (none_any _).mono ?_; rintro e w1 ⟨rfl, hnu, hb1⟩)
                    | (go_at_call 22; have hst := HSd.out.next hb1; have hD5 := Left.next (Left.refl w.heap.size R _) hBr ((below_drew (Below.refl _ _)).trans hb1); refine ((all_ok k).1 _ w.heap.size R w2.heap.size _ 0 (.slice none 0 0) {} ad wv bv st.ar Drl.noNums _ hst HG.out hnu (fun c => by unfold Drl.noNums; decide) hpos HQ.out).mono ?_; rintro e w5 ⟨hL5, v', rfl, b', rfl, hb'⟩)))
                have HLE := Lib.hid (HB4.out.trans (hD5.trans hL5).below)
                have HB := Lib.hid hb'
                go_wp2_with fail
                go_ret3
                exact ⟨HLE.out, _, rfl, _, rfl, HB.out⟩
              | ok st5 =>
                obtain rfl := Option.some.inj hr
                clear hr
                go_region_held3 (fun w' => w'.cell? ⟨ad 0, 4, none⟩ = some (bv 0) ∧ Nodes w' w2.heap.size ad wv bv st.ar)
                  (first
                    | exact play_B HSd.out.nodes hpos
                    | exact play_B (hst.nodes.left hL5 hst.run.at_) hpos
                    | exact play_B (HSd.out.nodes.next hb1) hpos)
                  ((first
                    | (go_at_call 23; refine (none_any _).mono ?_; rintro e w1 ⟨rfl, hnu, hb1⟩)
                    | (go_at_call 22; have hst := HSd.out.next hb1; have hD5 := Left.next (Left.refl w.heap.size R _) hBr ((below_drew (Below.refl _ _)).trans hb1); refine ((all_ok k).1 _ w.heap.size R w2.heap.size _ 0 (.slice none 0 0) {} ad wv bv st.ar Drl.noNums _ hst HG.out hnu (fun c => by unfold Drl.noNums; decide) hpos HQ.out).mono ?_; rintro e w5 ⟨hL5, rfl, sv5, hR5⟩)))
                have HLE := Lib.hid (HB4.out.trans (hD5.trans hL5).below)
                have HR5 := Lib.hid hR5
                have hc5 : w5.cell? ⟨R, 0, none⟩ = some sv5 := cell_of hR5.at_ rfl
                clear hR5
                go_wp2_with fail
                go_ret3
                exact ⟨HLE.out, sv5, ret_three (by rw [HNE.out]; exact HNN.out.symm), HR5.out.row⟩
end Go.Proofs.YtfbmlnkgjgnnhaaGreatDoor
