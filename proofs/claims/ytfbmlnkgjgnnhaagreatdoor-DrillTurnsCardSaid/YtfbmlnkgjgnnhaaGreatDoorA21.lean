import Derived.Test.YtfbmlnkgjgnnhaaGreatDoorA20
namespace Go.Proofs.YtfbmlnkgjgnnhaaGreatDoor
open Go.RowKit

set_option maxRecDepth 100000
set_option maxHeartbeats 2000000

theorem times_ok (K : Nat) (hP : ∀ k, k < K → PlayOk k) : TimesOk K := by
  intro w B R Bt V n d sv st ad wv bv ar v a b r hS hG hN hv hn hd ha0 ha hb hr
  cases K with
  | zero => simp [Drl.run] at hr
  | succ k =>
  have hHN := hS.nodes.node n hn
  have hc0 : w.cell? ⟨ad n, 0, none⟩ = some (.int .i64 (Drl.nd ar n).at_) := cell_of hHN rfl
  have HS := Lib.hid hS
  have HG := Lib.hid hG
  have HNN := Lib.hid hN
  have HV := Lib.hid hv
  have HP := Lib.hid hP
  have HC := Lib.hid hc0
  have HR := Lib.hid hr
  clear hS hG hN hv hP hHN hr hc0
  go_enter Tryz.func38, Tryz.ntmps38
  go_wp2_with fail
  refine (turn_ok w B R (ad n) sv st HS.out.run _ HC.out).mono ?_
  rintro e w1 ⟨hL1, hm⟩
  have hr := HR.out
  simp only [Drl.run] at hr
  cases htn : Drl.turn (Drl.nd ar n).at_ st with
  | error x =>
    rw [htn] at hm hr
    obtain ⟨v', rfl, b', rfl, hb'⟩ := hm
    obtain rfl : Except.error x = r := Option.some.inj hr
    clear hr
    have HL := Lib.hid hL1
    have HB := Lib.hid hb'
    clear hL1 hb'
    go_wp2_with fail
    go_ret
    exact ⟨HL.out, _, rfl, _, rfl, HB.out⟩
  | ok st1 =>
    rw [htn] at hm hr
    obtain ⟨rfl, sv1, hr1⟩ := hm
    have HL := Lib.hid hL1
    have HR1 := Lib.hid hr1
    have HRU := Lib.hid hr
    clear hL1 hr1 hr
    go_wp2_with fail
    go_loopw [14] (fun i wr => ∃ (a' : Int) (k' : Nat) (st' : Drl.PSt) (sv' : Value), i = .int .i64 a' ∧ 0 ≤ a' ∧ a' ≤ 1000000 ∧ k' < k + 1 ∧ Drl.run ar k' (.loop n (Drl.nd ar d).body v a' b) st' = some r ∧ Left B R w wr ∧ RunAt wr B R sv' st') (fun i _ => (b + 1 - intOf i).toNat)
    case atStart => exact ⟨a, k, st1, sv1, rfl, ha0, by omega, by omega, HRU.out, HL.out, HR1.out⟩
    case round =>
      obtain ⟨a', k', st', sv', rfl, h0, hmx, hk', hru, hL, hR⟩ := hrel
      by_cases hab : a' ≤ b
      · cases k' with
        | zero => simp [Drl.run] at hru
        | succ k2 =>
        simp only [Drl.run, if_pos hab] at hru
        have hS' := HS.out.left hL hR
        have hcr : wr.cell? ⟨ad n, 0, none⟩ = some (.int .i64 (Drl.nd ar n).at_) := cell_of (hS'.nodes.node n hn) rfl
        have HLw := Lib.hid hL
        have HRw := Lib.hid hR
        have HRU2 := Lib.hid hru
        have HSw := Lib.hid hS'
        clear hL hR hru hS'
        go_wp2_with fail
        refine (turn_ok wr B R (ad n) sv' st' HRw.out _ hcr).mono ?_
        rintro e w2 ⟨hL2, hm2⟩
        have hr2 := HRU2.out
        cases htn2 : Drl.turn (Drl.nd ar n).at_ st' with
        | error x =>
          rw [htn2] at hm2 hr2
          obtain ⟨v', rfl, b', rfl, hb'⟩ := hm2
          obtain rfl : Except.error x = r := Option.some.inj hr2
          clear hr2
          have HLE := Lib.hid (HLw.out.trans hL2)
          have HB := Lib.hid hb'
          clear hL2 hb'
          go_wp2_with fail
          go_ret
          exact ⟨HLE.out, _, rfl, _, rfl, HB.out⟩
        | ok st2 =>
          rw [htn2] at hm2 hr2
          obtain ⟨rfl, sv2, hrn2⟩ := hm2
          have hS2 := HSw.out.left hL2 hrn2
          have hN2 : NumsAt w2 V v := (HNN.out.left HLw.out HS.out.run.at_).left hL2 HRw.out.at_
          have HL2 := Lib.hid (HLw.out.trans hL2)
          have HS2 := Lib.hid hS2
          have HN2 := Lib.hid hN2
          have HR2 := Lib.hid hr2
          clear hL2 hrn2 hS2 hN2 hr2 hcr
          have HZ := Lib.hid (show NumsAt (w2.alloc (.cells (numsCells fun _ => 0) 101)) w2.heap.size (fun _ => 0) from heap_new _ _)
          have hlet := HG.out.letter n hn
          by_cases hl0 : (Drl.nd ar n).letter.toNat = 0
          · have el : (((Drl.nd ar n).letter.toNat : Int) != 0) = false := by rw [hl0]; rfl
            have HL0 := Lib.hid hl0
            clear hl0
            go_wp2_with (first
              | (with_reducible refine load_row rfl (.tmp 37) rfl ?_; refine ⟨V, v, rfl, HN2.out, ?_⟩)
              | with_reducible refine alloc_row rfl rfl ?_
              | (with_reducible refine store_row rfl (.tmp 16) (.tmp 38) rfl ?_; refine ⟨_, _, v, rfl, rfl, HZ.out, ?_⟩; have hn3 := nums_copy v HZ.out; have hb3 := setCells_far w2.heap.size (numsCells v).toList 0 _ ((Below.refl w2.heap.size w2).alloc (Nat.le_refl _) (.cells (numsCells fun _ => 0) 101)) (Nat.le_refl _); generalize World.setCells (w2.alloc (.cells (numsCells fun _ => 0) 101)) w2.heap.size 0 (numsCells v).toList = W3 at hn3 hb3 ⊢; have hc3 : W3.cell? ⟨ad n, 3, none⟩ = some (.int .u8 (Drl.nd ar n).letter.toNat) := cell_of ((HS2.out.next hb3).nodes.node n hn) rfl))
            have hb4 : Below w2.heap.size w2 W3 := hb3
            have hS4 := HS2.out.next hb4
            have hN4 : NumsAt W3 w2.heap.size (v) := hn3
            have hv4 : ∀ c, (v) c ≤ 999999 := HV.out
            have hr := HR2.out
            rw [if_neg (by simpa using HL0.out)] at hr
            cases hq : Drl.run ar k2 (.seq (Drl.nd ar d).body (v)) st2 with
            | none => rw [hq] at hr; cases hr
            | some q =>
              rw [hq] at hr
              refine (HP.out k2 (by omega) W3 B R Bt w2.heap.size d sv2 st2 ad wv bv ar (v) q hS4 HG.out hN4 hv4 hd hq).mono ?_
              rintro e w5 ⟨hL5, hm5⟩
              have hBw2 : B ≤ w2.heap.size := by have := lt_of HS2.out.run.at_; have := HS2.out.run.base; omega
              have HL5 := Lib.hid ((HL2.out.trans ((Left.refl B R w2).next hBw2 hb4)).trans hL5)
              cases q with
              | error x =>
                obtain ⟨v', rfl, b', rfl, hb'⟩ := hm5
                obtain rfl : Except.error x = r := Option.some.inj hr
                have HB := Lib.hid hb'
                clear hL5 hb' hr hq hS4 hN4 hv4 hb4
                go_wp2_with fail
                go_ret
                exact ⟨HL5.out, _, rfl, _, rfl, HB.out⟩
              | ok st3 =>
                obtain ⟨rfl, sv3, hR3⟩ := hm5
                have HR3 := Lib.hid hR3
                have HRR := Lib.hid hr
                clear hL5 hR3 hr hq hS4 hN4 hv4 hb4
                have hw1 : IntKind.i64.wrap (a' + 1) = a' + 1 := IntWalk.i64_in _ (by omega)
                go_wp2_with fail
                go_round
                case rel => exact ⟨a' + 1, k2, st3, sv3, rfl, by omega, by omega, by omega, HRR.out, HL5.out, HR3.out⟩
                case measure => simp only [intOf]; omega
          · have el : (((Drl.nd ar n).letter.toNat : Int) != 0) = true := by simp [bne]; omega
            have el2 : ((Drl.nd ar n).letter.toNat : Int) < 128 := by omega
            have HL0 := Lib.hid hl0
            clear hl0
            go_wp2_with (first
              | (with_reducible refine load_row rfl (.tmp 37) rfl ?_; refine ⟨V, v, rfl, HN2.out, ?_⟩)
              | with_reducible refine alloc_row rfl rfl ?_
              | (with_reducible refine store_row rfl (.tmp 16) (.tmp 38) rfl ?_; refine ⟨_, _, v, rfl, rfl, HZ.out, ?_⟩; have hn3 := nums_copy v HZ.out; have hb3 := setCells_far w2.heap.size (numsCells v).toList 0 _ ((Below.refl w2.heap.size w2).alloc (Nat.le_refl _) (.cells (numsCells fun _ => 0) 101)) (Nat.le_refl _); generalize World.setCells (w2.alloc (.cells (numsCells fun _ => 0) 101)) w2.heap.size 0 (numsCells v).toList = W3 at hn3 hb3 ⊢; have hc3 : W3.cell? ⟨ad n, 3, none⟩ = some (.int .u8 (Drl.nd ar n).letter.toNat) := cell_of ((HS2.out.next hb3).nodes.node n hn) rfl; have hc4 := hn3.cell _ hlet; have hz4 := hn3.frozen (Drl.nd ar n).letter.toNat))
            have hb4 : Below w2.heap.size w2 (W3.setCell ⟨w2.heap.size, (Drl.nd ar n).letter.toNat, none⟩ (.int .i64 a')) := hb3.setCell (Nat.le_refl _) _
            have hS4 := HS2.out.next hb4
            have hN4 : NumsAt (W3.setCell ⟨w2.heap.size, (Drl.nd ar n).letter.toNat, none⟩ (.int .i64 a')) w2.heap.size (Drl.upd v (Drl.nd ar n).letter.toNat a') := hn3.set _ _
            have hv4 : ∀ c, (Drl.upd v (Drl.nd ar n).letter.toNat a') c ≤ 999999 := fun c => by unfold Drl.upd; split; (· omega); (· exact HV.out c)
            have hr := HR2.out
            rw [if_pos HL0.out] at hr
            cases hq : Drl.run ar k2 (.seq (Drl.nd ar d).body (Drl.upd v (Drl.nd ar n).letter.toNat a')) st2 with
            | none => rw [hq] at hr; cases hr
            | some q =>
              rw [hq] at hr
              refine (HP.out k2 (by omega) (W3.setCell ⟨w2.heap.size, (Drl.nd ar n).letter.toNat, none⟩ (.int .i64 a')) B R Bt w2.heap.size d sv2 st2 ad wv bv ar (Drl.upd v (Drl.nd ar n).letter.toNat a') q hS4 HG.out hN4 hv4 hd hq).mono ?_
              rintro e w5 ⟨hL5, hm5⟩
              have hBw2 : B ≤ w2.heap.size := by have := lt_of HS2.out.run.at_; have := HS2.out.run.base; omega
              have HL5 := Lib.hid ((HL2.out.trans ((Left.refl B R w2).next hBw2 hb4)).trans hL5)
              cases q with
              | error x =>
                obtain ⟨v', rfl, b', rfl, hb'⟩ := hm5
                obtain rfl : Except.error x = r := Option.some.inj hr
                have HB := Lib.hid hb'
                clear hL5 hb' hr hq hS4 hN4 hv4 hb4
                go_wp2_with fail
                go_ret
                exact ⟨HL5.out, _, rfl, _, rfl, HB.out⟩
              | ok st3 =>
                obtain ⟨rfl, sv3, hR3⟩ := hm5
                have HR3 := Lib.hid hR3
                have HRR := Lib.hid hr
                clear hL5 hR3 hr hq hS4 hN4 hv4 hb4
                have hw1 : IntKind.i64.wrap (a' + 1) = a' + 1 := IntWalk.i64_in _ (by omega)
                go_wp2_with fail
                go_round
                case rel => exact ⟨a' + 1, k2, st3, sv3, rfl, by omega, by omega, by omega, HRR.out, HL5.out, HR3.out⟩
                case measure => simp only [intOf]; omega
      · have hab' : ¬ a' ≤ b := hab
        cases k' with
        | zero => simp [Drl.run] at hru
        | succ k2 =>
        simp only [Drl.run, if_neg hab] at hru
        obtain rfl : Except.ok st' = r := Option.some.inj hru
        have HLw := Lib.hid hL
        have HRw := Lib.hid hR
        clear hL hR hru
        go_wp2_with fail
        go_ret
        exact ⟨HLw.out, rfl, _, HRw.out⟩
end Go.Proofs.YtfbmlnkgjgnnhaaGreatDoor
