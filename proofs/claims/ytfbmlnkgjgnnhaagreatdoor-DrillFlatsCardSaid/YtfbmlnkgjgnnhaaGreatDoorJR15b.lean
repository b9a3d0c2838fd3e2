import Derived.Test.YtfbmlnkgjgnnhaaGreatDoorJR15c
import Derived.Test.YtfbmlnkgjgnnhaaGreatDoorJP10
set_option linter.unusedSimpArgs false
set_option linter.unusedVariables false
namespace Go.Proofs.YtfbmlnkgjgnnhaaGreatDoor
open Go.RowKit

set_option maxRecDepth 100000
set_option maxHeartbeats 16000000

theorem info_int8b : (Tryz.prog.info? 3).map (fun i => (i.zero, i.size, i.bytes)) = some (some (.int .i64 0), 1, 8) := by kernel_rfl
theorem take_next {l : List Nat} {i k : Nat} (h : l[i]? = some k) : l.take i ++ [k] = l.take (i + 1) := by
  obtain ⟨h1, h2⟩ := List.getElem?_eq_some_iff.1 h
  rw [List.take_succ_eq_append_getElem h1, h2]
theorem raw_lines (s : Drl.Str) : Drl.linesFrom 0 (Drl.rawLines s) = Drl.lines s := rfl

noncomputable def readTail1b : Option Code := readTail1.bind fun c => match c with | .seq _ b => some b | _ => none

/-- while the kinds are found -/
structure Scan (s : ByteArray) (w : World) (R : Nat) (lv : Value) (i : Nat) (K : List Nat) (E : List Int) (kv ev : Value) (cl : Int) (wr : World) : Prop where
  le : i ≤ (Drl.LL s.data.toList).length
  rd : RdAt wr R R lv kv ev cl 0 0 (Drl.LL s.data.toList) K E
  kinds : K = (Drl.kindsF (Drl.LL s.data.toList)).take i
  ends : E = List.replicate i (-1)
  head : (cl = 0 ∧ Drl.NoHead (Drl.rawLines s.data.toList) i) ∨ (cl ≠ 0 ∧ Drl.HasHead (Drl.rawLines s.data.toList) i ∧ cl = Drl.headN (Drl.lines s.data.toList))
  keep : Below R w wr

/-- the kinds, and what comes behind -/
theorem rread_loop2 (s : ByteArray) (w : World) (R : Nat) (c : Code) (hc : readTail1b = some c) (a : Act) (v4 v5 : Value) (wr0 : World) (lv : Value) (hs : s.size ≤ 65536) (hf : RFr s R v4 v5 a)
    (h : RdAt wr0 R R lv (.slice none 0 0) (.slice none 0 0) 0 0 0 (Drl.LL s.data.toList) [] []) (hb : Below R w wr0) :
    c.wp Tryz.prog (bodyPost Tryz.prog Tryz.f24 (RReadPost s w R)) a wr0 := by
  obtain ⟨u, rfl⟩ := hf
  have e := hc.symm.trans (rfl : readTail1b = some _)
  obtain rfl := Option.some.inj e
  clear e hc
  obtain ⟨i0, hi, hz0, hz1, hz2⟩ := info_parts info_int8b
  have hll := LL_ok s.data.toList
  rw [size_len] at hll
  have hst : Scan s w R lv 0 [] [] (.slice none 0 0) (.slice none 0 0) 0 wr0 := ⟨Nat.zero_le _, h, rfl, rfl, .inl ⟨rfl, Drl.NoHead.start⟩, hb⟩
  have HST := Lib.hid hst
  have HL2 := Lib.hid hll.2
  have hlen := hll.1
  clear h hb hst hll
  obtain ⟨LL, hLL⟩ : ∃ LL, Drl.LL s.data.toList = LL := ⟨_, rfl⟩
  rw [hLL] at hlen
  have HLE := Lib.hid hLL
  clear hLL
  go_wp2_with fail
  rename_i K1 hK1
  have HK1 := Lib.hid hK1
  clear hK1
  go_loopw [6] (fun iv wr => ∃ (i : Nat) (K : List Nat) (E : List Int) (kv ev : Value) (cl : Int), iv = .int .i64 i ∧ Scan s w R lv i K E kv ev cl wr) (fun iv _ => LL.length - (intOf iv).toNat)
  case atStart => exact ⟨0, [], [], _, _, 0, rfl, HST.out⟩
  case round =>
    clear HST
    obtain ⟨i, K, E, kv, ev, cl, rfl, hC⟩ := hrel
    have HC := Lib.hid hC
    have hrd := hC.rd
    have hle := hC.le
    rw [HLE.out] at hrd hle
    have hK := hC.kinds
    have hE := hC.ends
    rw [HLE.out] at hK
    have hKF : (Drl.kindsF LL).length = LL.length := Drl.kindsF_len _
    have hKl : K.length = i := by rw [hK, List.length_take]; omega
    have hEl : E.length = i := by rw [hE, List.length_replicate]
    have HRD := Lib.hid hrd
    obtain ⟨ao, lcap, rfl⟩ := own_form hrd.rl
    obtain ⟨ak, ck, rfl⟩ := own_form hrd.rk
    obtain ⟨ae, ce, rfl⟩ := own_form hrd.re
    have c0 : wr.cell? ⟨R, 0, none⟩ = some (.slice ao LL.length lcap) := cell_of hrd.blk rfl
    clear hC hrd
    by_cases hlt : i < LL.length
    · have hlt' : (i : Int) < (LL.length : Int) := by omega
      have w1 : IntKind.i64.wrap ((i : Int) + 1) = (i : Int) + 1 := IntWalk.i64_in _ (by omega)
      obtain ⟨t, ht⟩ : ∃ t, LL[i]? = some t := ⟨_, List.getElem?_eq_getElem hlt⟩
      have htl : t.length ≤ 65536 := by have := HL2.out t (by rw [HLE.out]; exact List.mem_of_getElem? ht); omega
      obtain ⟨lb, hlb, hel⟩ : ∃ lb, ao = some ⟨lb, 0, none⟩ ∧ wr.cell? ⟨lb, i, none⟩ = some (strV t) := by
        obtain ⟨g, cap, h1, h2⟩ := (RowT.of_own (B := R) (l := LL.map strV) (by rw [List.length_map]; exact HRD.out.rl)).row (by rw [List.length_map]; omega)
        injection h1 with h1
        exact ⟨g, h1, h2 i _ (by rw [List.getElem?_map, ht]; rfl)⟩
      subst hlb
      obtain ⟨ts, hts⟩ := exists_str t
      rw [strV_eq hts] at hel
      have htz : ts.size ≤ 65536 := by rw [← size_len, hts]; exact htl
      have hraw : ((Drl.rawLines s.data.toList).map Drl.trim)[i]? = some t := by have := HLE.out; unfold Drl.LL at this; rw [this]; exact ht
      have HTS := Lib.hid hts
      have HRAW := Lib.hid hraw
      have hhd := HC.out.head
      have HHD := Lib.hid hhd
      have HKK := Lib.hid hK
      have HEE := Lib.hid hE
      have HKF := Lib.hid hKF
      have hkk : (Drl.rkind ts.data.toList : Nat) = Drl.rkind t := by rw [hts]
      have HKI := Lib.hid hkk
      clear hts hraw hhd hK hE hKF ht htl hkk
      go_wp2_with fail
      refine (rkind_any ts _ (by omega)).mono ?_
      rintro e w2 ⟨rfl, hb2⟩
      rw [HKI.out]
      have HRD2 := Lib.hid (HRD.out.next hb2)
      have HB2 := Lib.hid (HC.out.keep.trans (hb2.mono (by have := HRD.out.lt; omega)))
      have c3 : w2.cell? ⟨R, 3, none⟩ = some (.int .i64 cl) := cell_of HRD2.out.blk rfl
      have c02 : w2.cell? ⟨R, 0, none⟩ = some (.slice (some ⟨lb, 0, none⟩) LL.length lcap) := cell_of HRD2.out.blk rfl
      have c12 : w2.cell? ⟨R, 1, none⟩ = some (.slice ak K.length ck) := cell_of HRD2.out.blk rfl
      have hel2 : w2.cell? ⟨lb, i, none⟩ = some (.string ts) := below_cell hb2 hel
      clear hb2 c0 hel HRD
      by_cases hk0 : Drl.rkind t = 0
      · have e0 : ((Drl.rkind t : Int) != 0) = false := by simp [bne, hk0]
        have hrel : (Drl.kindsF LL)[i]? = some (Drl.rkind t) ∧ ((cl = 0 ∧ Drl.NoHead (Drl.rawLines s.data.toList) (i + 1)) ∨ (cl ≠ 0 ∧ Drl.HasHead (Drl.rawLines s.data.toList) (i + 1) ∧ cl = Drl.headN (Drl.lines s.data.toList))) := by
          rw [← HLE.out]
          rcases HHD.out with ⟨h1, h2⟩ | ⟨h1, h2, h3⟩
          · obtain ⟨a, b⟩ := h2.skip HRAW.out hk0
            exact ⟨by rw [hk0]; exact a, .inl ⟨h1, b⟩⟩
          · obtain ⟨a, b⟩ := h2.step HRAW.out
            exact ⟨a, .inr ⟨h1, b, h3⟩⟩
        have HREL := Lib.hid hrel
        have HBX := HB2
        clear hk0 hrel
        have hcur := HRD2.out.lt
        obtain ⟨g1, q1, w5, hrun1, hown1, hgrow1, hat1, _⟩ := run_append_lies (P := Tryz.prog) (w2.alloc (.cells #[.int .i64 (Drl.rkind t : Nat)] 3)) 67 67 R 3 i0 _ 1 8 Tryz.underlying67 hi hz0 hz1 hz2 rfl (by decide) (.slice ak K.length ck) K.length (K.map intV) (HRD2.out.rk.alloc _) ⟨w2.heap.size, 0, none⟩ 1 1 [.int .i64 (Drl.rkind t : Nat)] rfl (World.news_of_block (heap_new w2 _)) (by simp [Value.oneCell']) (by decide) (by unfold maxLen; omega) (by omega) (by simp; omega) _ rfl
        have hP1 := HRD2.out.pushK (Drl.rkind t) hown1 hgrow1 (by rcases hat1 with h | h; (· exact .inl h); (· right; rw [h]; simp))
        have k1 := hP1.2.2.1
        have k2 := hP1.2.2.2
        have HP1 := Lib.hid hP1
        clear hP1 hown1 hgrow1 hat1
        obtain ⟨w6, hw6⟩ : ∃ w6, w6 = w5.setCell ⟨R, 1, none⟩ (.slice (some ⟨g1, 0, none⟩) (K.length + 1) q1) := ⟨_, rfl⟩
        have HRD6 := Lib.hid HP1.out.1
        rw [← hw6] at HRD6
        have e6 : w6.cell? ⟨R, 2, none⟩ = some (.slice ae E.length ce) := cell_of HRD6.out.blk rfl
        have hs6 := HRD6.out.lt
        obtain ⟨g2, q2, w7, hrun2, hown2, hgrow2, hat2, _⟩ := run_append_lies (P := Tryz.prog) (w6.alloc (.cells #[.int .i64 (-1)] 3)) 67 67 R 3 i0 _ 1 8 Tryz.underlying67 hi hz0 hz1 hz2 rfl (by decide) (.slice ae E.length ce) E.length (E.map (Value.int .i64)) (HRD6.out.re.alloc _) ⟨w6.heap.size, 0, none⟩ 1 1 [.int .i64 (-1)] rfl (World.news_of_block (heap_new w6 _)) (by simp [Value.oneCell']) (by decide) (by unfold maxLen; omega) (by omega) (by simp; omega) _ rfl
        have hP2 := HRD6.out.pushE (-1) hown2 hgrow2 (by rcases hat2 with h | h; (· exact .inl h); (· right; rw [h]; simp))
        have m1 := hP2.2.2.1
        have m2 := hP2.2.2.2
        have HP2 := Lib.hid hP2
        clear hP2 hown2 hgrow2 hat2
        have e6b : w5.cell? ⟨R, 2, none⟩ = some (.slice ae E.length ce) := by
          have h2 := e6
          rw [hw6] at h2
          rw [← h2]
          exact (World.cell?_setCell_other _ _ _ _ (by intro h; simp at h)).symm
        subst hw6
        (try rw [size_setCell] at hrun1)
        rw [size_setCell] at hrun2
        have HRUN1 := Lib.hid hrun1
        have HRUN2 := Lib.hid hrun2
        clear hrun1 hrun2 e6 hKl hEl hcur hs6
        go_wp2_with (at_builtin; refine Kept.intro ?_)
        refine Kept.elim ?_
        refine wpList_append_at rfl _ _ 67 rfl ?_
        refine ⟨_, _, HRUN1.out, ?_⟩
        go_wp2_with (at_builtin; refine Kept.intro ?_)
        refine Kept.elim ?_
        refine wpList_append_at rfl _ _ 67 rfl ?_
        refine ⟨_, _, HRUN2.out, ?_⟩
        go_wp2_with fail
        go_round
        case rel =>
          refine ⟨i + 1, K ++ [(Drl.rkind t)], E ++ [-1], .slice (some ⟨g1, 0, none⟩) (K.length + 1) q1, .slice (some ⟨g2, 0, none⟩) (E.length + 1) q2, cl, by go_num, ?_⟩
          refine ⟨by rw [HLE.out]; omega, by rw [HLE.out]; exact HP2.out.1, ?_, by rw [HEE.out]; rw [List.replicate_succ'], HREL.out.2, ?_⟩
          · rw [HKK.out, ← HLE.out, take_next (by rw [HLE.out]; exact HREL.out.1)]
          · exact (HBX.out.trans HP1.out.2.1).trans HP2.out.2.1
        case measure => simp only [intOf]; omega
      · have e0 : ((Drl.rkind t : Int) != 0) = true := by simp [bne, hk0]
        rcases HHD.out with ⟨hcl, h2⟩ | ⟨hcl, h2, h3⟩
        · -- the head
          subst hcl
          obtain ⟨hk1, hlin, hgood⟩ := h2.found HRAW.out hk0
          obtain ⟨lr, hlin⟩ := hlin
          rw [raw_lines] at hlin hgood
          have HK1E := Lib.hid hk1
          have HLIN := Lib.hid hlin
          have HGD := Lib.hid hgood
          have ec : ((0 : Int) == 0) = true := rfl
          clear hk0 h2 hk1 hlin hgood
          go_wp2_with fail
          refine (rwords_any ts w2 (by omega)).mono ?_
          rintro e1 w3 ⟨g, cap, rfl, hW, hb3⟩
          rw [HTS.out] at hW ⊢
          have HRD3 := Lib.hid (HRD2.out.next hb3)
          have HB3 := Lib.hid (HB2.out.trans (hb3.mono (by have := HRD2.out.lt; omega)))
          have HW := Lib.hid hW
          clear hb3 hW c02 hel2 c12 c3
          have c33 : w3.cell? ⟨R, 3, none⟩ = some (.int .i64 0) := cell_of HRD3.out.blk rfl
          have c13 : w3.cell? ⟨R, 1, none⟩ = some (.slice ak K.length ck) := cell_of HRD3.out.blk rfl
          have c7 : w3.cell? ⟨R, 7, none⟩ = some (.int .i64 0) := cell_of HRD3.out.blk rfl
          have c8 : w3.cell? ⟨R, 8, none⟩ = some (.int .i64 0) := cell_of HRD3.out.blk rfl
          have z3 : w3.frozen? ⟨R, 3, none⟩ = false := free_of HRD3.out.blk 3
          have z7 : w3.frozen? ⟨R, 7, none⟩ = false := free_of HRD3.out.blk 7
          have z8 : w3.frozen? ⟨R, 8, none⟩ = false := free_of HRD3.out.blk 8
          have hbig : ¬ 65536 < s.data.toList.length := by rw [size_len]; omega
          have HSTOP := Lib.hid (show Drl.headB (Drl.lines s.data.toList) = false → RReadPost s w R (.returned (.pointer (some ⟨R, 0, none⟩))) ((w3.setCell ⟨R, 7, none⟩ (.int .i64 ((295 : Nat) : Int))).setCell ⟨R, 8, none⟩ (.int .i64 ((0 : Nat) : Int))) from by
            intro hno
            have hE9 := HRD3.out.setErr (0, 295) (by show (295 : Nat) ≠ 0; decide)
            refine ⟨rfl, HB3.out.trans hE9.2, ?_⟩
            have hr : Drl.readOut s.data.toList = .error (0, 295) := by
              unfold Drl.readOut
              rw [if_neg hbig, if_pos hno]
            rw [hr]
            exact ⟨_, _, _, hE9.1⟩)
          clear hbig
          by_cases hl2 : (Drl.words t).length = 2
          · have l2 : (((Drl.words t).length : Int) == 2) = true := by rw [hl2]; rfl
            have i0' : (0 : Int) < ((Drl.words t).length : Int) := by omega
            have i1' : (1 : Int) < ((Drl.words t).length : Int) := by omega
            obtain ⟨s0, hs0, y0⟩ := HW.out.str 0 (by omega)
            obtain ⟨s1, hs1, y1⟩ := HW.out.str 1 (by omega)
            by_cases hcw : Drl.wd (Drl.words t) 0 = Drl.wClients
            · have b1 := eq_yes hs0 hcw
              unfold Drl.wClients at b1
              have hs1z : s1.size ≤ 65536 := by
                have := words_size t 1
                rw [← hs1, size_len] at this
                rw [← HTS.out, size_len] at this
                omega
              have HS1 := Lib.hid hs1
              have HCW := Lib.hid hcw
              clear hs0 hs1 hcw
              go_wp2_with fail
              refine (rnumber_any s1 w3 (by omega)).mono ?_
              rintro e2 w4 ⟨rfl, rfl⟩
              rw [HS1.out]
              obtain ⟨n, hn⟩ : ∃ n, Drl.rnum (Drl.wd (Drl.words t) 1) = n := ⟨_, rfl⟩
              rw [hn]
              have HN := Lib.hid hn
              clear hn y0 y1
              by_cases n1 : n < 1
              · have HSS := Lib.hid (HSTOP.out (by rw [HLIN.out]; exact Drl.head_no (.inr (.inl (by show Drl.rnum (Drl.wd (Drl.words t) 1) < 1; rw [HN.out]; exact n1)))))
                clear HSTOP
                go_wp2_with fail
                go_ret
                exact HSS.out
              · by_cases n2 : 64 < n
                · have HSS := Lib.hid (HSTOP.out (by rw [HLIN.out]; exact Drl.head_no (.inr (.inr (by show 64 < Drl.rnum (Drl.wd (Drl.words t) 1); rw [HN.out]; exact n2)))))
                  clear HSTOP
                  go_wp2_with fail
                  go_ret
                  exact HSS.out
                · have hyes := Drl.head_yes (x := Drl.mkLn i t) (r := lr) hl2 HCW.out (by show ¬ Drl.rnum (Drl.wd (Drl.words t) 1) < 1; rw [HN.out]; exact n1) (by show ¬ 64 < Drl.rnum (Drl.wd (Drl.words t) 1); rw [HN.out]; exact n2)
                  rw [← HLIN.out] at hyes
                  have hyn : Drl.headN (Drl.lines s.data.toList) = n := hyes.2.trans HN.out
                  have hrel : (Drl.kindsF LL)[i]? = some 1 ∧ ((n = 0 ∧ Drl.NoHead (Drl.rawLines s.data.toList) (i + 1)) ∨ (n ≠ 0 ∧ Drl.HasHead (Drl.rawLines s.data.toList) (i + 1) ∧ n = Drl.headN (Drl.lines s.data.toList))) := by
                    rw [← HLE.out]
                    exact ⟨HK1E.out, .inr ⟨by omega, HGD.out hyes.1, hyn.symm⟩⟩
                  have HREL := Lib.hid hrel
                  have hset := HRD3.out.setCl n
                  have HBX := Lib.hid (HB3.out.trans hset.2)
                  have HRD4 := Lib.hid hset.1
                  clear hyes hyn hrel hset HSTOP
                  obtain ⟨w8, hw8⟩ : ∃ w8, w8 = w3.setCell ⟨R, 3, none⟩ (.int .i64 n) := ⟨_, rfl⟩
                  rw [← hw8] at HRD4 HBX
                  have hcur := HRD4.out.lt
                  obtain ⟨g1, q1, w5, hrun1, hown1, hgrow1, hat1, _⟩ := run_append_lies (P := Tryz.prog) (w8.alloc (.cells #[.int .i64 1] 3)) 67 67 R 3 i0 _ 1 8 Tryz.underlying67 hi hz0 hz1 hz2 rfl (by decide) (.slice ak K.length ck) K.length (K.map intV) (HRD4.out.rk.alloc _) ⟨w8.heap.size, 0, none⟩ 1 1 [.int .i64 1] rfl (World.news_of_block (heap_new w8 _)) (by simp [Value.oneCell']) (by decide) (by unfold maxLen; omega) (by omega) (by simp; omega) _ rfl
                  have hP1 := HRD4.out.pushK 1 hown1 hgrow1 (by rcases hat1 with h | h; (· exact .inl h); (· right; rw [h]; simp))
                  have k1 := hP1.2.2.1
                  have k2 := hP1.2.2.2
                  have HP1 := Lib.hid hP1
                  clear hP1 hown1 hgrow1 hat1
                  obtain ⟨w6, hw6⟩ : ∃ w6, w6 = w5.setCell ⟨R, 1, none⟩ (.slice (some ⟨g1, 0, none⟩) (K.length + 1) q1) := ⟨_, rfl⟩
                  have HRD6 := Lib.hid HP1.out.1
                  rw [← hw6] at HRD6
                  have e6 : w6.cell? ⟨R, 2, none⟩ = some (.slice ae E.length ce) := cell_of HRD6.out.blk rfl
                  have hs6 := HRD6.out.lt
                  obtain ⟨g2, q2, w7, hrun2, hown2, hgrow2, hat2, _⟩ := run_append_lies (P := Tryz.prog) (w6.alloc (.cells #[.int .i64 (-1)] 3)) 67 67 R 3 i0 _ 1 8 Tryz.underlying67 hi hz0 hz1 hz2 rfl (by decide) (.slice ae E.length ce) E.length (E.map (Value.int .i64)) (HRD6.out.re.alloc _) ⟨w6.heap.size, 0, none⟩ 1 1 [.int .i64 (-1)] rfl (World.news_of_block (heap_new w6 _)) (by simp [Value.oneCell']) (by decide) (by unfold maxLen; omega) (by omega) (by simp; omega) _ rfl
                  have hP2 := HRD6.out.pushE (-1) hown2 hgrow2 (by rcases hat2 with h | h; (· exact .inl h); (· right; rw [h]; simp))
                  have m1 := hP2.2.2.1
                  have m2 := hP2.2.2.2
                  have HP2 := Lib.hid hP2
                  clear hP2 hown2 hgrow2 hat2
                  have e6b : w5.cell? ⟨R, 2, none⟩ = some (.slice ae E.length ce) := by
                    have h2 := e6
                    rw [hw6] at h2
                    rw [← h2]
                    exact (World.cell?_setCell_other _ _ _ _ (by intro h; simp at h)).symm
                  subst hw6 hw8
                  (try rw [size_setCell] at hrun1)
                  rw [size_setCell] at hrun2
                  have HRUN1 := Lib.hid hrun1
                  have HRUN2 := Lib.hid hrun2
                  clear hrun1 hrun2 e6 hKl hEl hcur hs6
                  go_wp2_with (at_builtin; refine Kept.intro ?_)
                  refine Kept.elim ?_
                  refine wpList_append_at rfl _ _ 67 rfl ?_
                  refine ⟨_, _, HRUN1.out, ?_⟩
                  go_wp2_with (at_builtin; refine Kept.intro ?_)
                  refine Kept.elim ?_
                  refine wpList_append_at rfl _ _ 67 rfl ?_
                  refine ⟨_, _, HRUN2.out, ?_⟩
                  go_wp2_with fail
                  go_round
                  case rel =>
                    refine ⟨i + 1, K ++ [1], E ++ [-1], .slice (some ⟨g1, 0, none⟩) (K.length + 1) q1, .slice (some ⟨g2, 0, none⟩) (E.length + 1) q2, n, by go_num, ?_⟩
                    refine ⟨by rw [HLE.out]; omega, by rw [HLE.out]; exact HP2.out.1, ?_, by rw [HEE.out]; rw [List.replicate_succ'], HREL.out.2, ?_⟩
                    · rw [HKK.out, ← HLE.out, take_next (by rw [HLE.out]; exact HREL.out.1)]
                    · exact (HBX.out.trans HP1.out.2.1).trans HP2.out.2.1
                  case measure => simp only [intOf]; omega
            · have b1 := eq_no hs0 hcw
              unfold Drl.wClients at b1
              have HSS := Lib.hid (HSTOP.out (by rw [HLIN.out]; exact Drl.head_no (.inl (fun h => hcw h.2))))
              clear hs0 hs1 hcw HSTOP
              go_wp2_with fail
              go_ret
              exact HSS.out
          · have l2 : (((Drl.words t).length : Int) == 2) = false := by simp; omega
            have HSS := Lib.hid (HSTOP.out (by rw [HLIN.out]; exact Drl.head_no (.inl (fun h => hl2 h.1))))
            clear HSTOP
            go_wp2_with fail
            go_ret
            exact HSS.out
        · have ec : (cl == 0) = false := by simpa using hcl
          have hrel : (Drl.kindsF LL)[i]? = some (Drl.rkind t) ∧ ((cl = 0 ∧ Drl.NoHead (Drl.rawLines s.data.toList) (i + 1)) ∨ (cl ≠ 0 ∧ Drl.HasHead (Drl.rawLines s.data.toList) (i + 1) ∧ cl = Drl.headN (Drl.lines s.data.toList))) := by
            rw [← HLE.out]
            obtain ⟨a, b⟩ := h2.step HRAW.out
            exact ⟨a, .inr ⟨hcl, b, h3⟩⟩
          have HREL := Lib.hid hrel
          have HBX := HB2
          clear hk0 hrel hcl h2 h3
          have hcur := HRD2.out.lt
          obtain ⟨g1, q1, w5, hrun1, hown1, hgrow1, hat1, _⟩ := run_append_lies (P := Tryz.prog) (w2.alloc (.cells #[.int .i64 (Drl.rkind t : Nat)] 3)) 67 67 R 3 i0 _ 1 8 Tryz.underlying67 hi hz0 hz1 hz2 rfl (by decide) (.slice ak K.length ck) K.length (K.map intV) (HRD2.out.rk.alloc _) ⟨w2.heap.size, 0, none⟩ 1 1 [.int .i64 (Drl.rkind t : Nat)] rfl (World.news_of_block (heap_new w2 _)) (by simp [Value.oneCell']) (by decide) (by unfold maxLen; omega) (by omega) (by simp; omega) _ rfl
          have hP1 := HRD2.out.pushK (Drl.rkind t) hown1 hgrow1 (by rcases hat1 with h | h; (· exact .inl h); (· right; rw [h]; simp))
          have k1 := hP1.2.2.1
          have k2 := hP1.2.2.2
          have HP1 := Lib.hid hP1
          clear hP1 hown1 hgrow1 hat1
          obtain ⟨w6, hw6⟩ : ∃ w6, w6 = w5.setCell ⟨R, 1, none⟩ (.slice (some ⟨g1, 0, none⟩) (K.length + 1) q1) := ⟨_, rfl⟩
          have HRD6 := Lib.hid HP1.out.1
          rw [← hw6] at HRD6
          have e6 : w6.cell? ⟨R, 2, none⟩ = some (.slice ae E.length ce) := cell_of HRD6.out.blk rfl
          have hs6 := HRD6.out.lt
          obtain ⟨g2, q2, w7, hrun2, hown2, hgrow2, hat2, _⟩ := run_append_lies (P := Tryz.prog) (w6.alloc (.cells #[.int .i64 (-1)] 3)) 67 67 R 3 i0 _ 1 8 Tryz.underlying67 hi hz0 hz1 hz2 rfl (by decide) (.slice ae E.length ce) E.length (E.map (Value.int .i64)) (HRD6.out.re.alloc _) ⟨w6.heap.size, 0, none⟩ 1 1 [.int .i64 (-1)] rfl (World.news_of_block (heap_new w6 _)) (by simp [Value.oneCell']) (by decide) (by unfold maxLen; omega) (by omega) (by simp; omega) _ rfl
          have hP2 := HRD6.out.pushE (-1) hown2 hgrow2 (by rcases hat2 with h | h; (· exact .inl h); (· right; rw [h]; simp))
          have m1 := hP2.2.2.1
          have m2 := hP2.2.2.2
          have HP2 := Lib.hid hP2
          clear hP2 hown2 hgrow2 hat2
          have e6b : w5.cell? ⟨R, 2, none⟩ = some (.slice ae E.length ce) := by
            have h2 := e6
            rw [hw6] at h2
            rw [← h2]
            exact (World.cell?_setCell_other _ _ _ _ (by intro h; simp at h)).symm
          subst hw6
          (try rw [size_setCell] at hrun1)
          rw [size_setCell] at hrun2
          have HRUN1 := Lib.hid hrun1
          have HRUN2 := Lib.hid hrun2
          clear hrun1 hrun2 e6 hKl hEl hcur hs6
          go_wp2_with (at_builtin; refine Kept.intro ?_)
          refine Kept.elim ?_
          refine wpList_append_at rfl _ _ 67 rfl ?_
          refine ⟨_, _, HRUN1.out, ?_⟩
          go_wp2_with (at_builtin; refine Kept.intro ?_)
          refine Kept.elim ?_
          refine wpList_append_at rfl _ _ 67 rfl ?_
          refine ⟨_, _, HRUN2.out, ?_⟩
          go_wp2_with fail
          go_round
          case rel =>
            refine ⟨i + 1, K ++ [(Drl.rkind t)], E ++ [-1], .slice (some ⟨g1, 0, none⟩) (K.length + 1) q1, .slice (some ⟨g2, 0, none⟩) (E.length + 1) q2, cl, by go_num, ?_⟩
            refine ⟨by rw [HLE.out]; omega, by rw [HLE.out]; exact HP2.out.1, ?_, by rw [HEE.out]; rw [List.replicate_succ'], HREL.out.2, ?_⟩
            · rw [HKK.out, ← HLE.out, take_next (by rw [HLE.out]; exact HREL.out.1)]
            · exact (HBX.out.trans HP1.out.2.1).trans HP2.out.2.1
          case measure => simp only [intOf]; omega
    · have hi' : i = LL.length := by omega
      have hlt' : ¬ (i : Int) < (LL.length : Int) := by omega
      have hrd := HC.out.rd
      have hK2 : K = Drl.kindsF (Drl.LL s.data.toList) := by rw [hK, hi', List.take_of_length_le (by omega), HLE.out]
      have hE2 : E = List.replicate (Drl.LL s.data.toList).length (-1) := by rw [hE, hi', HLE.out]
      have hhd : (cl = 0 ∧ Drl.lines s.data.toList = []) ∨ (cl ≠ 0 ∧ Drl.headB (Drl.lines s.data.toList) = true ∧ cl = Drl.headN (Drl.lines s.data.toList)) := by
        rcases HC.out.head with ⟨h1, h2⟩ | ⟨h1, h2, h3⟩
        · refine .inl ⟨h1, ?_⟩
          have := h2.last (by have := HLE.out; unfold Drl.LL at this; rw [hi', ← this, List.length_map]; exact Nat.le_refl _)
          exact this
        · exact .inr ⟨h1, h2.good, h3⟩
      have HHD := Lib.hid hhd
      rw [hK2, hE2] at hrd
      have HRR := Lib.hid hrd
      clear hrd hhd hK hE hK2 hE2 hKF
      go_wp2_with fail
      refine HK1.out _ _ ?_
      exact rread_tail2 s w R _ rfl _ _ _ wr hs RFr2.intro HRR.out HC.out.keep HHD.out

theorem rread_tail1 (s : ByteArray) (w : World) (R : Nat) (c : Code) (hc : readTail1 = some c) (a : Act) (wr : World) (f : Nat) (acc : List Drl.Str) (lv v5 : Value) (hs : s.size ≤ 65536) (hf : RFr s R (.int .i64 (f : Nat)) v5 a) (hC : Cut s w R wr s.size f acc lv) :
    c.wp Tryz.prog (bodyPost Tryz.prog Tryz.f24 (RReadPost s w R)) a wr := by
  have e := hc.symm.trans (rfl : readTail1 = some _)
  obtain rfl := Option.some.inj e
  clear e hc
  obtain ⟨u, rfl⟩ := hf
  obtain ⟨i0, hi, hz0, hz1, hz2⟩ := info_parts info_string
  refine wp_seq_k (fun K2 hK2 => ?_)
  have HK2 := Lib.hid hK2
  clear hK2
  have HC := Lib.hid hC
  have hf := hC.hf
  have hal := hC.hl
  obtain ⟨ao, cv, rfl⟩ := own_form hC.rd.rl
  have c0 : wr.cell? ⟨R, 0, none⟩ = some (.slice ao acc.length cv) := cell_of hC.rd.blk rfl
  have hno : ∀ j (hj : j < s.size), f ≤ j → (s[j]'hj).toNat ≠ 10 := fun j hj h1 => hC.no j hj h1 hj
  have hsum := hC.sum
  have HNO := Lib.hid hno
  have HSUM := Lib.hid hsum
  clear hC hno hsum
  by_cases hlt : f < s.size
  · have hlt' : (f : Int) < (s.size : Int) := by omega
    have q1 : (f : Int) ≤ (s.size : Int) := by omega
    obtain ⟨t, ht⟩ := exists_str (Drl.trim (s.extract f s.size).data.toList)
    have hs1 : ∀ W : World, Calls Tryz.prog 41 #[.string (s.extract f s.size)] W fun e w' => e = .returned (.string t) ∧ W = w' := by
      intro W
      have := rtrim_any (s.extract f s.size) W (by simp; omega)
      rw [← ht, strV_data] at this
      exact this
    have HT := Lib.hid ht
    have HS1 := Lib.hid hs1
    have j1 : ∀ o, (wr.alloc o).cell? ⟨R, 0, none⟩ = some (.slice ao acc.length cv) := fun o => cell_old c0
    clear ht hs1
    go_wp2_with fail
    go_region_law
      (first
        | (go_simp; go_at_call 41; refine (HS1.out _).mono ?_; rintro e w' ⟨rfl, rfl⟩)
        | (refine step_append_lies _ rfl (.tmp 59) (.tmp 64) 57 rfl R 9 i0 _ 1 16 Tryz.underlying57 hi hz0 hz1 hz2 rfl (by decide) (.slice ao acc.length cv) acc.length (acc.map strV) rfl (by exact HC.out.rd.rl.alloc _) ⟨wr.heap.size, 0, none⟩ 1 1 [.string t] rfl rfl (World.news_of_block (heap_new wr _)) (by simp [Value.oneCell']) (by decide) (by unfold maxLen; omega) (by omega) (by have := HC.out.rd.lt; simp; omega) _ rfl ?_; intro g cap w1 hown1 hgrow hat hglt; have hown2 : w1.ownsRow R 9 1 (.slice (some ⟨g, 0, none⟩) (acc.length + 1) cap) (acc.length + 1) (acc.map strV ++ [strV (Drl.trim (s.extract f s.size).data.toList)]) := (by rw [strV_eq HT.out]; exact hown1); have hP := (HC.out.rd.next (below_drew (Below.refl _ wr))).pushL _ hown2 hgrow; have p3 := hP.2.2.1; have p4 := hP.2.2.2; have HP := Lib.hid hP; clear hP hown2))
    all_goals
      have hb1 := HP.out.2.1
      have HB1 := Lib.hid (HC.out.keep.trans ((below_drew (Below.refl R wr)).trans hb1))
      have hll : acc ++ [Drl.trim (s.extract f s.size).data.toList] = Drl.LL s.data.toList := by
        rw [← HSUM.out, raw_end s f HNO.out, if_neg (by intro e; have := congrArg List.length e; simp [size_len] at this; omega), extract_list s f s.size (Nat.le_refl _)]
        rw [List.take_of_length_le (by rw [size_len]; exact Nat.le_refl _)]
        rfl
      have hpr := HP.out.1
      rw [hll] at hpr
      have HPR := Lib.hid hpr
      clear p3 p4 c0 j1 hb1 HP hgrow hown1 hat hll hpr
      go_wp2_with fail
      refine HK2.out _ _ ?_
      exact rread_loop2 s w R _ rfl _ _ _ _ _ hs RFr.intro HPR.out HB1.out
  · have hlt' : ¬ (f : Int) < (s.size : Int) := by omega
    have hll : acc = Drl.LL s.data.toList := by
      rw [← HSUM.out, drop_end s f (by omega)]
      simp [Drl.rawLines, Drl.cutAt]
    have hpr := HC.out.rd
    rw [hll] at hpr
    have HPR := Lib.hid hpr
    have hla : acc.length = (Drl.LL s.data.toList).length := by rw [hll]
    clear hpr c0
    go_wp2_with fail
    refine HK2.out _ _ ?_
    exact rread_loop2 s w R _ rfl _ _ _ _ _ hs RFr.intro HPR.out HC.out.keep
end Go.Proofs.YtfbmlnkgjgnnhaaGreatDoor
