import Derived.Test.YtfbmlnkgjgnnhaaGreatDoorJA14
import Derived.Deep.AppendLies
set_option linter.unusedSimpArgs false
set_option linter.unusedVariables false
namespace Go.Proofs.YtfbmlnkgjgnnhaaGreatDoor
open Go.RowKit

set_option maxRecDepth 100000
set_option maxHeartbeats 2000000

/-- what wrong reads, out of the reader -/
theorem At.wrongIn {w wr : World} {ls : List Drl.Ln} {k Rb Mb g c : Nat} {ad : Nat → Nat} {wv bv : Nat → Value} {st : Drl.RSt} (h : At w ls k Rb Mb (.slice (some ⟨g, 0, none⟩) st.opn.length c) ad wv bv st wr) (hl : ls.length ≤ 65536) {x : Drl.Ln} {b : Nat} (hb : WordsIn wr b x.ws) (hw : 1 ≤ x.ws.length ∧ ∀ t ∈ x.ws, t.length ≤ 65536) :
    WrongIn wr Rb g c Mb b ad st x := by
  have hk := h.hk
  have ho := h.olen
  obtain ⟨g', c', e, _, hp⟩ := h.mem.ov h.inv.ne
  cases e
  refine ⟨⟨cell_of h.mem.rd rfl, by omega, hp, fun i hi => ?_⟩, cell_of h.mem.rd rfl, h.mem.map, hb, hw.1, hw.2⟩
  exact cell_of (h.mem.nodes.node _ (h.inv.opnlt _ (List.getElem_mem hi))) rfl

theorem read_pass1 (w : World) (ao : Option Addr) (cap : Nat) (ls : List Drl.Ln) (a : Act) (wr : World) (r1 : Code) (hr : findLabel readScope 1 = some (.seq .skip r1)) (hJ : JNext w ao cap ls a wr) (hin : ReadIn w ao ls) :
    r1.wp Tryz.prog (PassPost w ao cap ls (mu ls 1 a wr)) a wr := by
  have e := hr.symm.trans (rfl : findLabel readScope 1 = some (.seq .skip _))
  injection e with e
  injection e with e1 e
  obtain rfl := e
  clear e1
  clear hr
  obtain ⟨k, Rb, Mb, ov, ad, wv, bv, st, v7, v8, ⟨u, rfl⟩, hat, hfrom⟩ := hJ
  have hkl := hat.hk
  have hl := hin.len
  have hm : ∀ t : Nat, t < 2 * (ls.length + 1 - k) → t < mu ls 1 { tmps := #[.slice ao ls.length cap, undef, .pointer none, .nilIface, nptr ad 0, .pointer (some ⟨Rb, 0, none⟩), .int .i64 (k : Nat), v7, v8, u 9, u 10, u 11, u 12, u 13, u 14, u 15, u 16, u 17, u 18, u 19, u 20, u 21, u 22, u 23, u 24, u 25, u 26, u 27, u 28, u 29, u 30, u 31, u 32, u 33, u 34, u 35, u 36, u 37, u 38, u 39, u 40, u 41, u 42, u 43, u 44, u 45, u 46, u 47, u 48, u 49, u 50, u 51, u 52, u 53, u 54, u 55, u 56, u 57, u 58, u 59, u 60, u 61, u 62, u 63, u 64, u 65, u 66, u 67, u 68, u 69, u 70, u 71, u 72, u 73, u 74, u 75, u 76, u 77, u 78, u 79, u 80, u 81, u 82, u 83, u 84, u 85, u 86, u 87, u 88, u 89, u 90, u 91, u 92, u 93, u 94, u 95, u 96, u 97, u 98, u 99, u 100, u 101, u 102, u 103, u 104, u 105, u 106, u 107, u 108, u 109, u 110, u 111, u 112, u 113, u 114, u 115, u 116, u 117, u 118, u 119, u 120, u 121, u 122, u 123, u 124, u 125, u 126, u 127, u 128, u 129, u 130, u 131, u 132, u 133, u 134, u 135, u 136, u 137, u 138, u 139, u 140, u 141, u 142, u 143, u 144, u 145, u 146, u 147, u 148, u 149, u 150, u 151, u 152, u 153, u 154, u 155, u 156, u 157, u 158, u 159, u 160, u 161, u 162, u 163, u 164, u 165, u 166, u 167, u 168, u 169, u 170, u 171, u 172, u 173, u 174, u 175, u 176, u 177, u 178, u 179, u 180, u 181, u 182, u 183, u 184, u 185, u 186, u 187, u 188, u 189, u 190, u 191, u 192, u 193, u 194, u 195, u 196, u 197, u 198, u 199, u 200, u 201, u 202, u 203, u 204, u 205, u 206, u 207], defers := [] } wr := fun t ht => by
    have : mu ls 1 { tmps := #[.slice ao ls.length cap, undef, .pointer none, .nilIface, nptr ad 0, .pointer (some ⟨Rb, 0, none⟩), .int .i64 (k : Nat), v7, v8, u 9, u 10, u 11, u 12, u 13, u 14, u 15, u 16, u 17, u 18, u 19, u 20, u 21, u 22, u 23, u 24, u 25, u 26, u 27, u 28, u 29, u 30, u 31, u 32, u 33, u 34, u 35, u 36, u 37, u 38, u 39, u 40, u 41, u 42, u 43, u 44, u 45, u 46, u 47, u 48, u 49, u 50, u 51, u 52, u 53, u 54, u 55, u 56, u 57, u 58, u 59, u 60, u 61, u 62, u 63, u 64, u 65, u 66, u 67, u 68, u 69, u 70, u 71, u 72, u 73, u 74, u 75, u 76, u 77, u 78, u 79, u 80, u 81, u 82, u 83, u 84, u 85, u 86, u 87, u 88, u 89, u 90, u 91, u 92, u 93, u 94, u 95, u 96, u 97, u 98, u 99, u 100, u 101, u 102, u 103, u 104, u 105, u 106, u 107, u 108, u 109, u 110, u 111, u 112, u 113, u 114, u 115, u 116, u 117, u 118, u 119, u 120, u 121, u 122, u 123, u 124, u 125, u 126, u 127, u 128, u 129, u 130, u 131, u 132, u 133, u 134, u 135, u 136, u 137, u 138, u 139, u 140, u 141, u 142, u 143, u 144, u 145, u 146, u 147, u 148, u 149, u 150, u 151, u 152, u 153, u 154, u 155, u 156, u 157, u 158, u 159, u 160, u 161, u 162, u 163, u 164, u 165, u 166, u 167, u 168, u 169, u 170, u 171, u 172, u 173, u 174, u 175, u 176, u 177, u 178, u 179, u 180, u 181, u 182, u 183, u 184, u 185, u 186, u 187, u 188, u 189, u 190, u 191, u 192, u 193, u 194, u 195, u 196, u 197, u 198, u 199, u 200, u 201, u 202, u 203, u 204, u 205, u 206, u 207], defers := [] } wr = 2 * (ls.length + 1 - k) := rfl
    omega
  generalize mu ls 1 { tmps := #[.slice ao ls.length cap, undef, .pointer none, .nilIface, nptr ad 0, .pointer (some ⟨Rb, 0, none⟩), .int .i64 (k : Nat), v7, v8, u 9, u 10, u 11, u 12, u 13, u 14, u 15, u 16, u 17, u 18, u 19, u 20, u 21, u 22, u 23, u 24, u 25, u 26, u 27, u 28, u 29, u 30, u 31, u 32, u 33, u 34, u 35, u 36, u 37, u 38, u 39, u 40, u 41, u 42, u 43, u 44, u 45, u 46, u 47, u 48, u 49, u 50, u 51, u 52, u 53, u 54, u 55, u 56, u 57, u 58, u 59, u 60, u 61, u 62, u 63, u 64, u 65, u 66, u 67, u 68, u 69, u 70, u 71, u 72, u 73, u 74, u 75, u 76, u 77, u 78, u 79, u 80, u 81, u 82, u 83, u 84, u 85, u 86, u 87, u 88, u 89, u 90, u 91, u 92, u 93, u 94, u 95, u 96, u 97, u 98, u 99, u 100, u 101, u 102, u 103, u 104, u 105, u 106, u 107, u 108, u 109, u 110, u 111, u 112, u 113, u 114, u 115, u 116, u 117, u 118, u 119, u 120, u 121, u 122, u 123, u 124, u 125, u 126, u 127, u 128, u 129, u 130, u 131, u 132, u 133, u 134, u 135, u 136, u 137, u 138, u 139, u 140, u 141, u 142, u 143, u 144, u 145, u 146, u 147, u 148, u 149, u 150, u 151, u 152, u 153, u 154, u 155, u 156, u 157, u 158, u 159, u 160, u 161, u 162, u 163, u 164, u 165, u 166, u 167, u 168, u 169, u 170, u 171, u 172, u 173, u 174, u 175, u 176, u 177, u 178, u 179, u 180, u 181, u 182, u 183, u 184, u 185, u 186, u 187, u 188, u 189, u 190, u 191, u 192, u 193, u 194, u 195, u 196, u 197, u 198, u 199, u 200, u 201, u 202, u 203, u 204, u 205, u 206, u 207], defers := [] } wr = m at hm ⊢
  have HM := Lib.hid hm
  clear hm
  by_cases hk : k = ls.length
  · subst hk
    have ek : ((ls.length : Int) == (ls.length : Int)) = true := by simp
    have HAT := Lib.hid hat
    have HF := Lib.hid hfrom
    clear hat hfrom
    unfold nptr
    go_wp2_with fail
    go_step3
    refine And.intro ⟨Rb, Mb, ov, ad, wv, bv, st, _, _, _, Fr.intro, HAT.out, ?_⟩ (HM.out _ (by simp [mu]))
    rw [← HF.out, List.drop_length]
  · have hlt : k < ls.length := by omega
    have ek : ((k : Int) == (ls.length : Int)) = false := by simp; omega
    have hlt' : (k : Int) < (ls.length : Int) := by omega
    obtain ⟨x, hx⟩ : ∃ x, ls[k]? = some x := ⟨ls[k], List.getElem?_eq_getElem hlt⟩
    obtain ⟨gl, ol, rfl, hlines⟩ := hin.at_ (by intro e; rw [e] at hlt; simp at hlt)
    obtain ⟨l0, l1, b, l2, l3⟩ := (hlines.keep hat.keep) k x hx
    obtain ⟨sx, hsx⟩ := exists_str x.text
    rw [strV_eq hsx] at l1
    have hne := hat.inv.ne
    obtain ⟨g, c, rfl, hc, hp⟩ := hat.mem.ov hne
    have hop := List.length_pos_iff.2 hne
    have hol := hat.olen
    obtain ⟨t1, t2⟩ := top_ptr hne
    have hpt := hp _ t1
    rw [t2] at hpt
    have e3 : ol + 3 * k = ol + k * 3 := by omega
    rw [e3] at l0 l1 l2
    have hsm := hin.small _ (List.mem_of_getElem? hx)
    have HX := Lib.hid hx
    have HF := Lib.hid hfrom
    have HSX := Lib.hid hsx
    have HAT := Lib.hid hat
    have HW := Lib.hid l3
    have HSM := Lib.hid hsm
    have hrd := hat.mem.rd
    have ho1 : ∀ o, (wr.alloc o).cell? ⟨Rb, 0, none⟩ = some (.slice (some ⟨g, 0, none⟩) st.opn.length c) := fun o => cell_of (heap_old hrd) rfl
    have ho2 : ∀ o, (wr.alloc o).cell? ⟨g, st.opn.length - 1, none⟩ = some (nptr ad (Drl.top st)) := fun o => cell_old hpt
    have n1 : (1 : Int) ≤ (st.opn.length : Int) := by omega
    have n3 : IntKind.i64.wrap ((st.opn.length : Int) - 1) = (st.opn.length : Int) - 1 := IntWalk.i64_in _ (by omega)
    have n4 : ((st.opn.length : Int) - 1).toNat = st.opn.length - 1 := by omega
    have n5 : (st.opn.length : Int) - 1 < (st.opn.length : Int) := by omega
    clear hat hfrom hx hsx hp l3 hin hlines hsm hrd hpt
    unfold nptr at *
    go_wp2_with fail
    go_quiet (fail)
    have hA2 := (HAT.out.next ((Below.refl wr.heap.size wr).alloc (Nat.le_refl _) (.cells #[.int .i64 x.at_, .string sx, .slice (some ⟨b, 0, none⟩) x.ws.length x.ws.length, .int .u8 0, .slice none 0 0, .pointer none] 62))).next (below_drewN (Below.refl _ _) nq)
    have hcl : nodeCells ad (.slice (some ⟨b, 0, none⟩) x.ws.length x.ws.length) (.slice none 0 0) (newNd x) = #[.int .i64 x.at_, .string sx, .slice (some ⟨b, 0, none⟩) x.ws.length x.ws.length, .int .u8 0, .slice none 0 0, .pointer none] := by
      show #[_, strV x.text, _, _, _, _] = _
      rw [strV_eq HSX.out]
      rfl
    have hN2 : NewAt ((wr.alloc (.cells #[.int .i64 x.at_, .string sx, .slice (some ⟨b, 0, none⟩) x.ws.length x.ws.length, .int .u8 0, .slice none 0 0, .pointer none] 62)).drewN nq) w.heap.size wr.heap.size b ad st.ar.length x :=
      ⟨by rw [hcl]; exact heap_new _ _, heap_old HW.out, HAT.out.keep.size, fun i hi => Nat.ne_of_lt (lt_of (HAT.out.mem.nodes.node i hi))⟩
    clear l0 l1 l2 ho1 ho2 HW HAT
    generalize (wr.alloc (.cells #[.int .i64 x.at_, .string sx, .slice (some ⟨b, 0, none⟩) x.ws.length x.ws.length, .int .u8 0, .slice none 0 0, .pointer none] 62)).drewN nq = w2 at hA2 hN2 ⊢
    generalize wr.heap.size = nb at hN2 ⊢
    have HCL := Lib.hid hcl
    have h2 := hN2.cells
    rw [hcl] at h2
    have l0 : w2.cell? ⟨nb, 0, none⟩ = some (.int .i64 x.at_) := cell_of h2 rfl
    have l1 : w2.cell? ⟨nb, 1, none⟩ = some (.string sx) := cell_of h2 rfl
    have l2 : w2.cell? ⟨nb, 2, none⟩ = some (.slice (some ⟨b, 0, none⟩) x.ws.length x.ws.length) := cell_of h2 rfl
    have HA2 := Lib.hid hA2
    have HN2 := Lib.hid hN2
    clear hA2 hN2 h2 hcl
    by_cases hend : x.text = Drl.wEnd
    · have ee := eq_yes HSX.out hend
      unfold Drl.wEnd at ee
      have HE := Lib.hid hend
      clear hend
      go_wp2_with fail
      go_step3
      refine And.intro ⟨k, Rb, Mb, _, ad, wv, bv, st, nb, b, x, Fr.intro, HA2.out, HF.out, HX.out, HE.out, HN2.out⟩ (HM.out _ ?_)
      show 2 * (ls.length + 1 - (k + 1)) + 1 < _
      omega
    · have ee := eq_no HSX.out hend
      unfold Drl.wEnd at ee
      have HE := Lib.hid hend
      clear hend
      go_wp2_with fail
      have hwi := HA2.out.wrongIn hl HN2.out.words ⟨HSM.out.1, HSM.out.2.1⟩
      have hlv : lnV x b = .agg #[.int .i64 x.at_, .string sx, .slice (some ⟨b, 0, none⟩) x.ws.length x.ws.length] := by unfold lnV; rw [strV_eq HSX.out]
      rw [← hlv]
      refine (wrong_any _ _ _ _ _ _ _ _ _ hwi).mono ?_
      clear hwi hlv
      rintro e w3 ⟨rfl, hb3⟩
      have hA3 := HA2.out.next hb3
      have hN3 := HN2.out.next hb3
      clear HA2 HN2 l0 l1 l2 hb3
      have h3 := hN3.cells
      rw [HCL.out] at h3
      have l0 : w3.cell? ⟨nb, 0, none⟩ = some (.int .i64 x.at_) := cell_of h3 rfl
      have l2 : w3.cell? ⟨nb, 2, none⟩ = some (.slice (some ⟨b, 0, none⟩) x.ws.length x.ws.length) := cell_of h3 rfl
      by_cases hwr : Drl.wrongE st x = 0
      · have ew : ((Drl.wrongE st x : Int) != 0) = false := by rw [hwr]; rfl
        obtain ⟨s0, hs0, hc0⟩ := hN3.words.str 0 HSM.out.1
        have hi0 : (0 : Int) < (x.ws.length : Int) := by have := HSM.out.1; omega
        have hP := hA3.push HX.out ⟨HSM.out.1, HSM.out.2.1⟩ hN3
        have htl := hA3.inv.top_lt
        have hpos := hA3.inv.pos
        have hbl : (Drl.nd (st.ar ++ [newNd x]) (Drl.top st)).body.length ≤ k := by rw [Drl.nd_append htl]; exact hA3.blen _ htl
        have at1 : setF ad st.ar.length nb (Drl.top st) = ad (Drl.top st) := setF_ne _ _ (Nat.ne_of_lt htl)
        have at2 : setF ad st.ar.length nb st.ar.length = nb := setF_eq _ _ _
        have at3 : setF bv st.ar.length (.slice none 0 0) (Drl.top st) = bv (Drl.top st) := setF_ne _ _ (Nat.ne_of_lt htl)
        have hnl : st.ar.length < (st.ar ++ [newNd x]).length := by simp
        have htl' : Drl.top st < (st.ar ++ [newNd x]).length := by simp; omega
        have AT1 := Lib.hid at1
        have AT2 := Lib.hid at2
        have AT3 := Lib.hid at3
        have HWR := Lib.hid hwr
        have HS0 := Lib.hid hs0
        have HA3 := Lib.hid hA3
        have HN3 := Lib.hid hN3
        have HP := Lib.hid hP
        have hc4 : w3.cell? ⟨ad (Drl.top st), 4, none⟩ = some (bv (Drl.top st)) := cell_of (hA3.mem.nodes.node _ htl) rfl
        clear hwr hA3 hN3 hP h3 at1 at2 at3
        by_cases q1 : Drl.wd x.ws 0 = Drl.wDef
        · have b1 := eq_yes HS0.out q1
          unfold Drl.wDef at b1
          have hwr := HWR.out
          simp only [Drl.wrongE, q1, if_true] at hwr
          have d1 : x.ws.length = 2 := by
            by_cases e : x.ws.length = 2
            · exact e
            · rw [if_pos e] at hwr; cases hwr
          rw [if_neg (by omega)] at hwr
          have d2 : ¬ 1 < st.opn.length := fun e => by rw [if_pos e] at hwr; cases hwr
          rw [if_neg d2] at hwr
          have d3 : Drl.look st.names (Drl.wd x.ws 1) = none := by
            cases e : Drl.look st.names (Drl.wd x.ws 1) with
            | none => rfl
            | some _ => rw [e] at hwr; simp at hwr
          have Q := Lib.hid q1
          clear q1 hwr
          obtain ⟨g', c', w4, hr, hz, hcc, hA4⟩ := HP.out.openRun hl st.ar.length hnl (by omega) (fun _ => ⟨Nat.not_lt.1 d2, by rw [Drl.nd_last]; exact d1, by rw [Drl.nd_last]; exact d3⟩) hol
          dsimp only at hr hz hcc hA4
          rw [AT2.out] at hr
          generalize st.opn.length + 1 = L at hr hA4
          have ho : w3.cell? ⟨Rb, 0, none⟩ = some (.slice (some ⟨g, 0, none⟩) st.opn.length c) := cell_of HA3.out.mem.rd rfl
          have HA4 := Lib.hid hA4
          clear hA4 d1 d2 d3
          go_wp2_with (refine wpList_append_at rfl (.tmp 75) (.tmp 77) 60 rfl ?_; refine ⟨_, _, hr, ?_⟩)
          go_step3
          refine And.intro ?_ (HM.out _ (by show 2 * (ls.length + 1 - (k + 1)) < _; omega))
          have hs : Drl.readStep st x = .ok { ar := st.ar ++ [newNd x], opn := st.opn ++ [st.ar.length], names := st.names } := by simp [Drl.readStep, HE.out, HWR.out, Q.out, newNd]
          exact JNext.mk_ (k := k + 1) (nptr_set0 hpos) (by simp) Fr.intro HA4.out (step_next HX.out hs HF.out)
        have b1 := eq_no HS0.out q1
        unfold Drl.wDef at b1
        by_cases q2 : Drl.wd x.ws 0 = Drl.wFor
        · have b2 := eq_yes HS0.out q2
          unfold Drl.wFor at b2
          obtain ⟨d1, d2⟩ := wrongE_for HWR.out q2
          have q := q2
          clear q1 q2
          have i1 : 1 < x.ws.length := by omega
          have i1' : (1 : Int) < (x.ws.length : Int) := by omega
          obtain ⟨s1, hs1, hc1⟩ := HN3.out.words.str 1 i1
          have hz1 : s1.size = 1 := letterB_size (by rw [hs1]; exact d2)
          have hh1 : (Drl.wd x.ws 1).headD 0 = s1[0]'(by omega) := by rw [← hs1]; exact head_get s1 (by omega)
          have hQ := HP.out.setLast 3 (.int .u8 (s1[0]'(by omega)).toNat) { newNd x with letter := s1[0]'(by omega) } (fun a b => nodeCells_letter _ a b _ _) rfl rfl (fun d hd => by cases hd)
          rw [AT2.out] at hQ
          have HH := Lib.hid hh1
          have hn3 := HN3.out.cells
          have hz3 : w3.frozen? ⟨nb, 3, none⟩ = false := free_of hn3 3
          have hv3 : w3.cell? ⟨nb, 3, none⟩ = some (.int .u8 0) := cell_of hn3 rfl
          have ho : (w3.setCell ⟨nb, 3, none⟩ (.int .u8 (s1[0]'(by omega)).toNat)).cell? ⟨Rb, 0, none⟩ = some (.slice (some ⟨g, 0, none⟩) st.opn.length c) := cell_of hQ.mem.rd rfl
          have HQ := Lib.hid hQ
          clear hQ hh1 hs1 hn3 d1 d2
          obtain ⟨g', c', w4, hr, hz, hcc, hA4⟩ := HQ.out.openRun hl st.ar.length (by simp) (by omega) (fun e => by rw [Drl.nd_last] at e; exact absurd (e.symm.trans q) (by decide)) hol
          dsimp only at hr hz hcc hA4
          rw [AT2.out] at hr
          simp only [size_setCell] at hr
          generalize st.opn.length + 1 = L at hr hA4
          have HA4 := Lib.hid hA4
          clear hA4
          obtain ⟨g2, c2, w5, hr2, hz2, hcc2, hA5⟩ := HA4.out.bodyRun hl (Drl.top st) st.ar.length (by simp; omega) (by simp) (by dsimp only; rw [Drl.nd_append htl]; exact HA3.out.blen _ htl)
          dsimp only at hr2 hz2 hcc2 hA5
          rw [AT2.out, AT3.out] at hr2
          simp only [size_setCell] at hr2
          rw [AT1.out] at hz2 hcc2 hA5
          rw [AT3.out] at hcc2
          generalize (Drl.nd (st.ar ++ [{ newNd x with letter := s1[0]'(by omega) }]) (Drl.top st)).body.length + 1 = L2 at hr2 hA5
          have hd4 := cell_of (i := 4) (HA4.out.mem.nodes.node (Drl.top st) (by simp; omega)) rfl
          rw [AT1.out, AT3.out] at hd4
          have HA5 := Lib.hid hA5
          clear hA5
          go_wp2_with (first | (refine wpList_append_at rfl (.tmp 98) (.tmp 100) 60 rfl ?_; refine ⟨_, _, hr, ?_⟩) | (refine wpList_append_at rfl (.tmp 137) (.tmp 139) 60 rfl ?_; refine ⟨_, _, hr2, ?_⟩))
          go_step3
          refine And.intro ?_ (HM.out _ (by show 2 * (ls.length + 1 - (k + 1)) < _; omega))
          have hs : Drl.readStep st x = .ok { ar := Drl.addTo (st.ar ++ [{ newNd x with letter := s1[0]'(by omega) }]) (Drl.top st) st.ar.length, opn := st.opn ++ [st.ar.length], names := st.names } := by simp [-List.headD_eq_head?_getD, Drl.readStep, HE.out, HWR.out, newNd, q, Drl.wDef, Drl.wFor, HH.out]
          exact JNext.mk_ (k := k + 1) (nptr_set0 hpos) (by simp) Fr.intro HA5.out (step_next HX.out hs HF.out)
        have b2 := eq_no HS0.out q2
        unfold Drl.wFor at b2
        by_cases q3 : Drl.wd x.ws 0 = Drl.wRepeat
        · have b3 := eq_yes HS0.out q3
          unfold Drl.wRepeat at b3
          have q := q3
          clear q1 q2 q3
          have ho : w3.cell? ⟨Rb, 0, none⟩ = some (.slice (some ⟨g, 0, none⟩) st.opn.length c) := cell_of HA3.out.mem.rd rfl
          have HQ := Lib.hid HP.out
          obtain ⟨g', c', w4, hr, hz, hcc, hA4⟩ := HQ.out.openRun hl st.ar.length (by simp) (by omega) (fun e => by rw [Drl.nd_last] at e; exact absurd (e.symm.trans q) (by decide)) hol
          dsimp only at hr hz hcc hA4
          rw [AT2.out] at hr
          generalize st.opn.length + 1 = L at hr hA4
          have HA4 := Lib.hid hA4
          clear hA4
          obtain ⟨g2, c2, w5, hr2, hz2, hcc2, hA5⟩ := HA4.out.bodyRun hl (Drl.top st) st.ar.length (by simp; omega) (by simp) (by dsimp only; rw [Drl.nd_append htl]; exact HA3.out.blen _ htl)
          dsimp only at hr2 hz2 hcc2 hA5
          rw [AT2.out, AT3.out] at hr2
          simp only [size_setCell] at hr2
          rw [AT1.out] at hz2 hcc2 hA5
          rw [AT3.out] at hcc2
          generalize (Drl.nd (st.ar ++ [newNd x]) (Drl.top st)).body.length + 1 = L2 at hr2 hA5
          have hd4 := cell_of (i := 4) (HA4.out.mem.nodes.node (Drl.top st) (by simp; omega)) rfl
          rw [AT1.out, AT3.out] at hd4
          have HA5 := Lib.hid hA5
          clear hA5
          go_wp2_with (first | (refine wpList_append_at rfl (.tmp 110) (.tmp 112) 60 rfl ?_; refine ⟨_, _, hr, ?_⟩) | (refine wpList_append_at rfl (.tmp 137) (.tmp 139) 60 rfl ?_; refine ⟨_, _, hr2, ?_⟩))
          go_step3
          refine And.intro ?_ (HM.out _ (by show 2 * (ls.length + 1 - (k + 1)) < _; omega))
          have hs : Drl.readStep st x = .ok { ar := Drl.addTo (st.ar ++ [newNd x]) (Drl.top st) st.ar.length, opn := st.opn ++ [st.ar.length], names := st.names } := by simp [-List.headD_eq_head?_getD, Drl.readStep, HE.out, HWR.out, newNd, q, Drl.wDef, Drl.wFor, Drl.wRepeat]
          exact JNext.mk_ (k := k + 1) (nptr_set0 hpos) (by simp) Fr.intro HA5.out (step_next HX.out hs HF.out)
        have b3 := eq_no HS0.out q3
        unfold Drl.wRepeat at b3
        by_cases q4 : Drl.wd x.ws 0 = Drl.wUse
        · have b4 := eq_yes HS0.out q4
          unfold Drl.wUse at b4
          obtain ⟨d1, ix, d2⟩ := wrongE_use HWR.out q4
          have q := q4
          clear q1 q2 q3 q4
          have hix := look_lt HA3.out.inv.namelt d2
          have i1 : 1 < x.ws.length := by omega
          have i1' : (1 : Int) < (x.ws.length : Int) := by omega
          obtain ⟨s1, hs1, hc1⟩ := HN3.out.words.str 1 i1
          have hcm : w3.cell? ⟨Rb, 1, none⟩ = some (.map (some Mb)) := cell_of HA3.out.mem.rd rfl
          have hlk : (Instr.lookup 93 (.map (some Mb)) (.string s1) false).run Tryz.prog w3.drew = .ok (.pointer (some ⟨ad ix, 0, none⟩)) w3.drew := by
            rw [lookup_names (HA3.out.mem.map.next (below_drew (Below.refl _ w3))) s1, hs1, d2]; rfl
          have HD2 := Lib.hid d2
          clear hs1 d1 d2
          go_wp2_with fail
          go_still_tail 15, (by kernel_rfl)
          change wpList _ _ _ _ _ w3.drew
          have hP5 := HP.out.next (below_drew (Below.refl _ w3))
          have hN5 := HN3.out.next (below_drew (Below.refl _ w3))
          have hA5 := HA3.out.next (below_drew (Below.refl _ w3))
          clear hc4 hc0 hc1 hcm hlk HP HN3 l0 l2
          generalize w3.drew = w5 at hP5 hN5 hA5 ⊢
          have hz5 : w5.frozen? ⟨nb, 5, none⟩ = false := free_of hN5.cells 5
          have hv5 : w5.cell? ⟨nb, 5, none⟩ = some (.pointer none) := cell_of hN5.cells rfl
          have huv : useV (setF ad st.ar.length nb) (some ix) = .pointer (some ⟨ad ix, 0, none⟩) := nptr_set hix
          have hQ := hP5.setLast 5 (useV (setF ad st.ar.length nb) (some ix)) { newNd x with use := some ix } (fun a b => nodeCells_use _ a b _ _) rfl rfl (fun d hd => by cases hd; simp; omega)
          rw [AT2.out, huv] at hQ
          have hd4 := cell_of (i := 4) (hQ.mem.nodes.node (Drl.top st) (by simp; omega)) rfl
          rw [AT1.out, AT3.out] at hd4
          have HQ := Lib.hid hQ
          have HA5 := Lib.hid hA5
          clear hQ hP5 hN5 hA5 huv
          obtain ⟨g2, c2, w6, hr2, hz2, hcc2, hA6⟩ := HQ.out.bodyRun hl (Drl.top st) st.ar.length (by simp; omega) (by simp) (by dsimp only; rw [Drl.nd_append htl]; exact HA3.out.blen _ htl)
          dsimp only at hr2 hz2 hcc2 hA6
          rw [AT2.out, AT3.out] at hr2
          simp only [size_setCell] at hr2
          rw [AT1.out] at hz2 hcc2 hA6
          rw [AT3.out] at hcc2
          generalize (Drl.nd (st.ar ++ [{ newNd x with use := some ix }]) (Drl.top st)).body.length + 1 = L2 at hr2 hA6
          have HA6 := Lib.hid hA6
          clear hA6
          go_wp2_with (refine wpList_append_at rfl (.tmp 137) (.tmp 139) 60 rfl ?_; refine ⟨_, _, hr2, ?_⟩)
          go_step3
          refine And.intro ?_ (HM.out _ (by show 2 * (ls.length + 1 - (k + 1)) < _; omega))
          have hs : Drl.readStep st x = .ok { ar := Drl.addTo (st.ar ++ [{ newNd x with use := some ix }]) (Drl.top st) st.ar.length, opn := st.opn, names := st.names } := by simp [Drl.readStep, HE.out, HWR.out, newNd, q, Drl.wDef, Drl.wFor, Drl.wRepeat, Drl.wUse, HD2.out]
          exact JNext.mk_ (k := k + 1) (nptr_set0 hpos) (by simp) Fr.intro HA6.out (step_next HX.out hs HF.out)
        have b4 := eq_no HS0.out q4
        unfold Drl.wUse at b4
        have Q := Lib.hid (And.intro q1 (And.intro q2 (And.intro q3 q4)))
        clear q1 q2 q3 q4
        obtain ⟨g', c', w4, hr, hz, hcc, hA4⟩ := HP.out.bodyRun hl (Drl.top st) st.ar.length htl' hnl hbl
        dsimp only at hr hz hcc hA4
        rw [AT2.out, AT3.out] at hr
        rw [AT1.out] at hz hcc hA4
        rw [AT3.out] at hcc
        generalize (Drl.nd (st.ar ++ [newNd x]) (Drl.top st)).body.length + 1 = L at hr hA4
        have HA4 := Lib.hid hA4
        clear hA4
        go_wp2_with (refine wpList_append_at rfl (.tmp 137) (.tmp 139) 60 rfl ?_; refine ⟨_, _, hr, ?_⟩)
        go_step3
        refine And.intro ?_ (HM.out _ (by show 2 * (ls.length + 1 - (k + 1)) < _; omega))
        have hs : Drl.readStep st x = .ok { ar := Drl.addTo (st.ar ++ [newNd x]) (Drl.top st) st.ar.length, opn := st.opn, names := st.names } := by simp [Drl.readStep, HE.out, HWR.out, Q.out.1, Q.out.2.1, Q.out.2.2.1, Q.out.2.2.2, newNd]
        exact JNext.mk_ (k := k + 1) (nptr_set0 hpos) (by simp) Fr.intro HA4.out (step_next HX.out hs HF.out)
      · have ew : ((Drl.wrongE st x : Int) != 0) = true := by simpa [bne] using hwr
        have HWR := Lib.hid hwr
        have HA3 := Lib.hid hA3
        clear hwr hA3 hN3 h3
        go_wp2_with fail
        refine (wrap_any _ _ _).mono ?_
        rintro e w' ⟨rfl, rfl⟩
        go_wp2_with fail
        go_ret2
        have hb : Below w3.heap.size w3 (w3.alloc (.cells #[.int .i64 x.at_, .iface 33 (.int .i64 (Drl.wrongE st x))] 79)) := (Below.refl _ _).alloc (Nat.le_refl _) _
        refine ⟨HA3.out.keep.trans (hb.mono HA3.out.keep.size), ?_⟩
        have : Drl.readFrom Drl.st0 ls = .error (x.at_, Drl.wrongE st x) := step_stop HX.out (by simp [Drl.readStep, HE.out, HWR.out]) HF.out
        rw [this]
        exact ⟨_, rfl, _, rfl, heap_new _ _⟩
end Go.Proofs.YtfbmlnkgjgnnhaaGreatDoor
