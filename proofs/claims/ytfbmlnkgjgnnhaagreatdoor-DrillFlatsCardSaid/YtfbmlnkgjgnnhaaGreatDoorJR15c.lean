import Derived.Test.YtfbmlnkgjgnnhaaGreatDoorJR15
set_option linter.unusedSimpArgs false
set_option linter.unusedVariables false
namespace Go.Proofs.YtfbmlnkgjgnnhaaGreatDoor
open Go.RowKit

set_option maxRecDepth 100000
set_option maxHeartbeats 40000000

theorem info_int8 : (Tryz.prog.info? 3).map (fun i => (i.zero, i.size, i.bytes)) = some (some (.int .i64 0), 1, 8) := by kernel_rfl

/-- while lines are looked at -/
structure Chk (s : ByteArray) (w : World) (R : Nat) (lv kv ev ov : Value) (cl : Int) (K : List Nat) (i : Nat) (E : List Int) (opn : List Nat) (st : Drl.RSt) (wr : World) : Prop where
  rd : Rd3 wr R R lv kv ev ov cl (Drl.LL s.data.toList) K E opn
  rel : Drl.Rel (Drl.LL s.data.toList) K i E opn st
  keep : Below R w wr
  sum : Drl.readFrom st (Drl.remK i ((Drl.LL s.data.toList).drop i) (K.drop i)) = Drl.readFrom Drl.st0 (Drl.lines s.data.toList).tail
  le : i ≤ (Drl.LL s.data.toList).length
  ol : opn.length ≤ i

theorem rchk_small {L : List Drl.Str} {K : List Nat} {opn : List Nat} {t : Drl.Str} {k : Nat} {th : Bool} (h : k < 2) : Drl.rchk L K opn t k th = 0 := by
  unfold Drl.rchk
  rw [if_neg (by omega), if_neg (by omega), if_neg (by omega), if_neg (by omega), if_neg (by omega)]
theorem kindsT_get {L : List Drl.Str} {i k : Nat} {t : Drl.Str} (hk : (Drl.kindsT L)[i]? = some k) (ht : L[i]? = some t) : k = Drl.rkind t := by
  unfold Drl.kindsT at hk
  rw [List.getElem?_map, ht] at hk
  exact (Option.some.inj hk).symm
theorem kindsF_get : ∀ {L : List Drl.Str} {i k : Nat} {t : Drl.Str}, (Drl.kindsF L)[i]? = some k → L[i]? = some t → k < 2 ∨ (k = Drl.rkind t ∧ 2 ≤ k)
  | [], i, k, t, h, _ => by simp [Drl.kindsF] at h
  | a :: r, i, k, t, h, ht => by
    unfold Drl.kindsF at h
    cases i with
    | zero =>
      split at h
      · simp at h; omega
      · simp at h; omega
    | succ i =>
      simp only [List.getElem?_cons_succ] at ht
      split at h
      · simp only [List.getElem?_cons_succ] at h
        exact kindsF_get h ht
      · simp only [List.getElem?_cons_succ] at h
        have := kindsT_get h ht
        by_cases e : k < 2
        · exact .inl e
        · exact .inr ⟨this, by omega⟩
theorem remK_at {L : List Drl.Str} {K : List Nat} {i k : Nat} {t : Drl.Str} (hk : K[i]? = some k) (ht : L[i]? = some t) : Drl.remK i (L.drop i) (K.drop i) = if 2 ≤ k then Drl.mkLn i t :: Drl.remK (i + 1) (L.drop (i + 1)) (K.drop (i + 1)) else Drl.remK (i + 1) (L.drop (i + 1)) (K.drop (i + 1)) := by
  obtain ⟨h1, h2⟩ := List.getElem?_eq_some_iff.1 hk
  obtain ⟨h3, h4⟩ := List.getElem?_eq_some_iff.1 ht
  rw [List.drop_eq_getElem_cons h1, List.drop_eq_getElem_cons h3, h2, h4]
  rfl
theorem LL_ok (s : Drl.Str) : (Drl.LL s).length ≤ s.length ∧ ∀ t ∈ Drl.LL s, t.length ≤ s.length := by
  refine ⟨by unfold Drl.LL; rw [List.length_map]; exact Drl.rawLines_len s, fun t ht => ?_⟩
  unfold Drl.LL at ht
  obtain ⟨r, hr, rfl⟩ := List.mem_map.1 ht
  have h1 : (Drl.trim r).length ≤ r.length := (List.dropWhile_sublist _).length_le
  have := Drl.rawLines_mem s r hr
  omega

/-- what the questions lean on, while lines are looked at -/
theorem Chk.side {s : ByteArray} {w : World} {R : Nat} {lv kv ev ov : Value} {cl : Int} {K : List Nat} {i : Nat} {E : List Int} {opn : List Nat} {st : Drl.RSt} {wr : World} (h : Chk s w R lv kv ev ov cl K i E opn st wr) (hs : s.size ≤ 65536) : Side (Drl.LL s.data.toList) K E opn := by
  have hll := LL_ok s.data.toList
  rw [size_len] at hll
  have hle := h.le
  have hol := h.ol
  have key : ∀ m ∈ opn, ∃ n, 0 < n ∧ n < st.ar.length ∧ (Drl.nd st.ar n).at_ = m := by
    intro m hm
    rw [h.rel.opn_] at hm
    obtain ⟨n, hn, rfl⟩ := List.mem_map.1 hm
    refine ⟨n, ?_, h.rel.good.inv.opnlt n (List.mem_of_mem_tail hn), rfl⟩
    obtain ⟨t, ht, h0⟩ := h.rel.good.inv.opn0
    rw [ht] at hn
    rcases Nat.eq_zero_or_pos n with e | e
    · subst e; exact absurd hn h0
    · exact e
  refine ⟨by omega, by omega, fun t ht => by have := hll.2 t ht; omega, ?_, ?_, Fin.hdef h.rel⟩
  · intro m hm
    obtain ⟨n, h0, hn, rfl⟩ := key m hm
    have := (h.rel.node n h0 hn).1
    have := h.rel.lenK
    omega
  · intro m hm hmk hml hk4
    obtain ⟨n, h0, hn, rfl⟩ := key m hm
    obtain ⟨_, nL, nw, nK⟩ := h.rel.node n h0 hn
    rw [List.getElem?_eq_getElem hml] at nL
    rw [List.getElem?_eq_getElem hmk] at nK
    rcases h.rel.letter n hn with ⟨_, _, _, hl, _⟩ | ⟨_, k4⟩
    · rw [Option.some.inj nL, ← nw]; exact hl
    · exact absurd (by rw [← Option.some.inj nK]; exact hk4) (k4 h0)

/-- a goal put by -/
def Kept (p : Prop) : Prop := p
theorem Kept.intro {p : Prop} (h : Kept p) : p := h
theorem Kept.elim {p : Prop} (h : p) : Kept p := h

theorem rread_tail2 (s : ByteArray) (w : World) (R : Nat) (c : Code) (hc : readTail2 = some c) (a : Act) (v4 v5 : Value) (wr : World) {lv kv ev : Value} {cl : Int} (hs : s.size ≤ 65536) (hf : RFr2 s R v4 v5 a)
    (h : RdAt wr R R lv kv ev cl 0 0 (Drl.LL s.data.toList) (Drl.kindsF (Drl.LL s.data.toList)) (List.replicate (Drl.LL s.data.toList).length (-1))) (hb : Below R w wr)
    (hcl : (cl = 0 ∧ Drl.lines s.data.toList = []) ∨ (cl ≠ 0 ∧ Drl.headB (Drl.lines s.data.toList) = true ∧ cl = Drl.headN (Drl.lines s.data.toList))) :
    c.wp Tryz.prog (bodyPost Tryz.prog Tryz.f24 (RReadPost s w R)) a wr := by
  obtain ⟨u, rfl⟩ := hf
  have e := hc.symm.trans (rfl : readTail2 = some _)
  obtain rfl := Option.some.inj e
  clear e hc
  obtain ⟨i0, hi, hz0, hz1, hz2⟩ := info_parts info_int8
  have c3 : wr.cell? ⟨R, 3, none⟩ = some (.int .i64 cl) := cell_of h.blk rfl
  have hbig : ¬ 65536 < s.data.toList.length := by rw [size_len]; omega
  rcases hcl with ⟨h0, hl⟩ | ⟨h0, hh, hcl⟩
  · have e0 : (cl == 0) = true := by simpa using h0
    have c7 : wr.cell? ⟨R, 7, none⟩ = some (.int .i64 0) := cell_of h.blk rfl
    have c8 : wr.cell? ⟨R, 8, none⟩ = some (.int .i64 0) := cell_of h.blk rfl
    have z7 : wr.frozen? ⟨R, 7, none⟩ = false := free_of h.blk 7
    have z8 : wr.frozen? ⟨R, 8, none⟩ = false := free_of h.blk 8
    have hE := h.setErr (0, 295) (by show (295 : Nat) ≠ 0; decide)
    have HP := Lib.hid (show RReadPost s w R (.returned (.pointer (some ⟨R, 0, none⟩))) ((wr.setCell ⟨R, 7, none⟩ (.int .i64 ((295 : Nat) : Int))).setCell ⟨R, 8, none⟩ (.int .i64 ((0 : Nat) : Int))) from by
      refine ⟨rfl, hb.trans hE.2, ?_⟩
      have hr : Drl.readOut s.data.toList = .error (0, 295) := by
        unfold Drl.readOut
        rw [if_neg hbig, hl]; rfl
      rw [hr]
      exact ⟨lv, kv, ev, hE.1⟩)
    clear hE h hl h0 hb
    go_wp2_with fail
    go_ret
    exact HP.out
  · have e0 : (cl == 0) = false := by simpa using h0
    have hll := LL_ok s.data.toList
    rw [size_len] at hll
    have hout : Drl.readOut s.data.toList = Drl.readFrom Drl.st0 (Drl.lines s.data.toList).tail := by
      unfold Drl.readOut
      rw [if_neg hbig, hh]; rfl
    have hK0 : (Drl.kindsF (Drl.LL s.data.toList)).length = (Drl.LL s.data.toList).length := Drl.kindsF_len _
    have hst : Chk s w R lv kv ev (.slice none 0 0) cl (Drl.kindsF (Drl.LL s.data.toList)) 0 (List.replicate (Drl.LL s.data.toList).length (-1)) [] Drl.st0 wr :=
      ⟨⟨h, World.ownsRow_nil _ _ _ _, fun g hg => by simp [Value.ownBlock] at hg, fun g hg => by simp [Value.ownBlock] at hg⟩, Drl.Rel.start _ _ hK0, hb, by rw [List.drop_zero, List.drop_zero]; unfold Drl.LL; rw [Drl.remK_F]; rfl, Nat.zero_le _, Nat.le_refl _⟩
    have HST := Lib.hid hst
    have HOUT := Lib.hid hout
    have HCL := Lib.hid hcl
    have HL2 := Lib.hid hll.2
    have hlen := hll.1
    obtain ⟨LL, hLL⟩ : ∃ LL, Drl.LL s.data.toList = LL := ⟨_, rfl⟩
    rw [hLL] at hlen hK0
    clear h hb hst hout hh hcl h0 hll hbig
    go_wp2_with fail
    rename_i K1 hK1
    have HK1 := Lib.hid hK1
    clear hK1
    go_loopw [10, 11] (fun ov iv wr => ∃ (i : Nat) (E : List Int) (opn : List Nat) (ev : Value) (st : Drl.RSt), iv = .int .i64 i ∧ Chk s w R lv kv ev ov cl (Drl.kindsF (Drl.LL s.data.toList)) i E opn st wr) (fun _ iv _ => (Drl.LL s.data.toList).length - (intOf iv).toNat)
    case atStart => exact ⟨0, _, [], ev, Drl.st0, rfl, HST.out⟩
    case round =>
      clear HST ev
      obtain ⟨i, E, opn, ev, st, rfl, hC⟩ := hrel
      have HC := Lib.hid hC
      have hle := hC.le
      have hol := hC.ol
      have hlE := hC.rel.lenE
      rw [hLL] at hle hlE
      obtain ⟨ao, lcap, rfl⟩ := own_form hC.rd.rd.rl
      have c0 : wr.cell? ⟨R, 0, none⟩ = some (.slice ao LL.length lcap) := by have := cell_of (i := 0) hC.rd.rd.blk rfl; rw [hLL] at this; exact this
      clear hC
      rw [hLL]
      by_cases hlt : i < LL.length
      · have hlt' : (i : Int) < (LL.length : Int) := by omega
        have w1 : IntKind.i64.wrap ((i : Int) + 1) = (i : Int) + 1 := IntWalk.i64_in _ (by omega)
        obtain ⟨t, ht⟩ : ∃ t, LL[i]? = some t := ⟨_, List.getElem?_eq_getElem hlt⟩
        obtain ⟨ki, hki⟩ : ∃ ki, (Drl.kindsF LL)[i]? = some ki := ⟨_, List.getElem?_eq_getElem (by omega)⟩
        have hrem := remK_at hki ht
        have hsum := HC.out.sum
        rw [hLL, hrem] at hsum
        have hrd := HC.out.rd
        rw [hLL] at hrd
        have hsh := hrd.rd.sh hK0 hlE (by omega)
        have hoa : OpnAt wr u10 opn := RowT.of_own (B := R) (by rw [List.length_map]; exact hrd.ro)
        have hside := HC.out.side hs
        rw [hLL] at hside
        have hrel := HC.out.rel
        rw [hLL] at hrel
        obtain ⟨th, hthd⟩ : ∃ th, th = (Drl.look st.names (Drl.wd (Drl.words t) 1)).isSome := ⟨_, rfl⟩
        have hth : ThereB LL (Drl.kindsF LL) E (Drl.wd (Drl.words t) 1) i th := by
          intro rr hr
          rcases hrel.thereIs (fun d hd => (hrel.look_lt hd).2.2) hr with ⟨h1, rfl⟩ | ⟨d, h1, rfl⟩
          · rw [hthd, h1]; simp
          · rw [hthd, h1]; simp
        have hgt : LL[i] = t := (List.getElem?_eq_some_iff.1 ht).2
        have hiK : i < (Drl.kindsF LL).length := by omega
        have hgk : (Drl.kindsF LL)[i]'hiK = ki := (List.getElem?_eq_some_iff.1 hki).2
        have hcall := rcheck_any wr R _ _ _ _ LL (Drl.kindsF LL) E opn hsh hoa hside i hlt hiK th (fun _ => by rw [hgt]; exact hth)
        rw [hgt, hgk] at hcall
        have HCA := Lib.hid hcall
        have HRD := Lib.hid hrd
        have HRE := Lib.hid hrel
        have HSU := Lib.hid hsum
        have HTD := Lib.hid hthd
        have HT := Lib.hid ht
        have HKI := Lib.hid hki
        have hkk := kindsF_get hki ht
        have HKK := Lib.hid hkk
        clear hrem hsum hrd hsh hoa hside hrel hthd hth hgt hgk hcall ht hki hkk
        go_wp2_with fail
        clear c0
        refine HCA.out.mono ?_
        rintro e w2 ⟨rfl, hb2⟩
        have HRD2 := Lib.hid (HRD.out.next hb2)
        have HB2 := Lib.hid (HC.out.keep.trans (hb2.mono (by have := HRD.out.rd.lt; omega)))
        have c1 : w2.cell? ⟨R, 1, none⟩ = some kv := cell_of HRD2.out.rd.blk rfl
        have c2 : w2.cell? ⟨R, 2, none⟩ = some ev := cell_of HRD2.out.rd.blk rfl
        obtain ⟨kb, kcap, rfl, hkc⟩ : ∃ kb kcap, kv = .slice (some ⟨kb, 0, none⟩) LL.length kcap ∧ w2.cell? ⟨kb, i, none⟩ = some (.int .i64 (ki : Nat)) := by
          obtain ⟨g, cap, h1, h2⟩ := (RowT.of_own (B := R) (l := (Drl.kindsF LL).map intV) (by rw [List.length_map]; exact HRD2.out.rd.rk)).row (by rw [List.length_map]; omega)
          rw [List.length_map, hK0] at h1
          exact ⟨g, cap, h1, h2 i _ (by rw [List.getElem?_map, HKI.out]; rfl)⟩
        clear hb2 HCA HRD
        have hne5 : Drl.rchk LL (Drl.kindsF LL) opn t ki th = 0 → ki = 5 → opn ≠ [] := by
          intro h1 h2 h3
          subst h2 h3
          simp [Drl.rchk] at h1
        by_cases hchk : Drl.rchk LL (Drl.kindsF LL) opn t ki th = 0
        · rw [hchk]
          by_cases hk2 : ki < 2
          · have b2 : ((ki : Int) == 2) = false := eqn_no (k := ki) (n := 2) (by omega)
            have b3 : ((ki : Int) == 3) = false := eqn_no (k := ki) (n := 3) (by omega)
            have b4 : ((ki : Int) == 4) = false := eqn_no (k := ki) (n := 4) (by omega)
            have b5 : ((ki : Int) == 5) = false := eqn_no (k := ki) (n := 5) (by omega)
            have hsum := HSU.out
            rw [if_neg (by omega)] at hsum
            have HSU2 := Lib.hid hsum
            clear hsum hchk
            go_wp2_with fail
            go_round
            case rel =>
              refine ⟨i + 1, E, opn, ev, st, by go_num, ?_⟩
              refine ⟨by rw [hLL]; exact HRD2.out, by rw [hLL]; exact HRE.out.skip HKI.out hk2, HB2.out, by rw [hLL]; exact HSU2.out, by rw [hLL]; omega, by omega⟩
            case measure => (try rw [hLL]); simp only [intOf]; omega
          · obtain ⟨hkr, _⟩ := HKK.out.resolve_left hk2
            have hsy : Drl.says t = true := Drl.rkind_says (by omega)
            have hchk' := hchk
            rw [hkr] at hchk'
            obtain ⟨st', hst'⟩ := (HRE.out.readStep_chk hsy th HTD.out).1 hchk'
            have hlnok : Drl.LnOk 65536 (Drl.mkLn i t) := ⟨rfl, by have := HL2.out t (by rw [hLL]; exact List.mem_of_getElem? HT.out); show t.length ≤ 65536; omega, by show i < 65536; omega⟩
            have hnext := HRE.out.readOk HT.out (by rw [HKI.out, hkr]) hsy (Nat.le_refl _) hlnok hst'
            have hsum := HSU.out
            rw [if_pos (by omega)] at hsum
            simp only [Drl.readFrom, hst'] at hsum
            have HSU2 := Lib.hid hsum
            have HNX := Lib.hid hnext
            have HKR := Lib.hid hkr
            have hne5' := hne5 hchk
            clear hsum hchk hchk' hst' hnext hlnok hsy hkr hne5
            by_cases hop : ki = 2 ∨ ki = 3 ∨ ki = 4
            · have b5 : ((ki : Int) == 5) = false := eqn_no (k := ki) (n := 5) (by omega)
              have hrel' := HNX.out.2.1 (by rw [← HKR.out]; exact hop)
              have HRL := Lib.hid hrel'
              clear hrel'
              obtain ⟨g, cap, w3, hrun, hown3, hgrow3, hat3, _⟩ := run_append_lies (P := Tryz.prog) (w2.alloc (.cells #[intV i] 3)) 67 67 R 3 i0 _ 1 8 Tryz.underlying67 hi hz0 hz1 hz2 rfl (by decide) u10 opn.length (opn.map intV) (HRD2.out.ro.alloc _) ⟨w2.heap.size, 0, none⟩ 1 1 [intV i] rfl (World.news_of_block (heap_new w2 _)) (by simp [Value.oneCell', intV]) (by decide) (by unfold maxLen; omega) (by omega) (by have := HRD2.out.rd.lt; simp; omega) _ rfl
              simp only [intV] at hrun
              have hP := HRD2.out.push i hown3 hgrow3 (by rcases hat3 with h | h; (· exact .inl h); (· right; rw [h]; simp))
              have HP := Lib.hid hP
              have c13 : w3.cell? ⟨R, 1, none⟩ = some (.slice (some ⟨kb, 0, none⟩) LL.length kcap) := cell_of hP.1.rd.blk rfl
              have hkc3 : w3.cell? ⟨kb, i, none⟩ = some (.int .i64 (ki : Nat)) := by
                obtain ⟨g', cap', h1, h2⟩ := (RowT.of_own (B := R) (l := (Drl.kindsF LL).map intV) (by rw [List.length_map]; exact hP.1.rd.rk)).row (by rw [List.length_map]; omega)
                injection h1 with h1
                injection h1 with h1
                injection h1 with h1
                subst h1
                exact h2 i _ (by rw [List.getElem?_map, HKI.out]; rfl)
              have HRUN := Lib.hid hrun
              clear hP hown3 hgrow3 hat3 hrun hne5' hk2
              rcases hop with rfl | rfl | rfl
              all_goals
                go_wp2_with (at_builtin; refine Kept.intro ?_)
                refine Kept.elim ?_
                refine wpList_append_at rfl _ _ 67 rfl ?_
                refine ⟨_, _, HRUN.out, ?_⟩
                go_wp2_with fail
                go_round
                case rel =>
                  refine ⟨i + 1, E, opn ++ [i], ev, st', by go_num, ?_⟩
                  refine ⟨?_, by rw [hLL]; exact HRL.out, HB2.out.trans HP.out.2, by rw [hLL]; exact HSU2.out, by rw [hLL]; omega, by simp; omega⟩
                  rw [hLL]; exact HP.out.1
                case measure => (try rw [hLL]); simp only [intOf]; omega
            · have b2 : ((ki : Int) == 2) = false := eqn_no (k := ki) (n := 2) (by omega)
              have b3 : ((ki : Int) == 3) = false := eqn_no (k := ki) (n := 3) (by omega)
              have b4 : ((ki : Int) == 4) = false := eqn_no (k := ki) (n := 4) (by omega)
              by_cases h5 : ki = 5
              · subst h5
                have hne := hne5' rfl
                obtain ⟨oao, ocap, rfl⟩ := own_form HRD2.out.ro
                have HRL := Lib.hid (HNX.out.1 HKR.out.symm)
                have hside2 := HC.out.side hs
                rw [hLL] at hside2
                have hlp : 0 < opn.length := List.length_pos_iff.2 hne
                obtain ⟨x, hx⟩ : ∃ x, opn.getLast? = some x := ⟨_, List.getLast?_eq_some_getLast hne⟩
                have hxl : opn.getLastD 0 = x := by rw [List.getLastD_eq_getLast?, hx]; rfl
                have hxi : opn[opn.length - 1]? = some x := by rw [← List.getLast?_eq_getElem?]; exact hx
                have hxm : x < LL.length := (hside2.hlt x (List.mem_of_getElem? hxi)).2
                obtain ⟨og, oc, cur, hv, hB, hh, hnc, hcm, hcs, htk⟩ : ∃ og oc cur, (Value.slice oao opn.length ocap) = .slice (some ⟨og, 0, none⟩) opn.length oc ∧ R ≤ og ∧ w2.heap[og]? = some (.cells cur 3 (0, 0)) ∧ opn.length ≤ oc ∧ oc ≤ maxLen ∧ cur.size = oc * 1 ∧ cur.toList.take (opn.length * 1) = opn.map intV := by
                  rcases HRD2.out.ro.2 with ⟨_, h3⟩ | h3
                  · omega
                  · exact h3
                injection hv with hv1 _ hv2
                subst hv1 hv2
                have hcell : w2.cell? ⟨og, opn.length - 1, none⟩ = some (.int .i64 (x : Nat)) := by
                  refine cell_of hh ?_
                  have : (cur.toList.take (opn.length * 1))[opn.length - 1]? = some (intV x) := by
                    rw [htk, List.getElem?_map, hxi]; rfl
                  rw [List.getElem?_take, if_pos (by omega)] at this
                  simpa [intV] using this
                obtain ⟨eg, ecap, rfl, z, hec⟩ : ∃ eg ecap, ev = .slice (some ⟨eg, 0, none⟩) E.length ecap ∧ ∃ z, w2.cell? ⟨eg, x, none⟩ = some z := by
                  have hx2 : x < E.length := by omega
                  obtain ⟨g, cap, h1, h2⟩ := (RowT.of_own (B := R) (l := E.map (Value.int .i64)) (by rw [List.length_map]; exact HRD2.out.rd.re)).row (by rw [List.length_map]; omega)
                  rw [List.length_map] at h1
                  exact ⟨g, cap, h1, _, h2 x _ (by rw [List.getElem?_map, List.getElem?_eq_getElem hx2]; rfl)⟩
                have hpop := HRD2.out.pop x (by omega) (i : Int)
                have z1 := hpop.2.2
                have HP := Lib.hid hpop
                have n3 : IntKind.i64.wrap ((opn.length : Int) - 1) = (opn.length : Int) - 1 := IntWalk.i64_in _ (by omega)
                have n4 : ((opn.length : Int) - 1).toNat = opn.length - 1 := by omega
                have n5 : (opn.length : Int) - 1 < (opn.length : Int) := by omega
                have n1 : (1 : Int) ≤ (opn.length : Int) := by omega
                have n6 : (x : Int) < (E.length : Int) := by omega
                have n7 : (0 : Int) ≤ (opn.length : Int) - 1 := by omega
                have n8 : (opn.length : Int) - 1 ≤ (ocap : Int) := by omega
                clear hpop hside2 hh htk hx hxi hB hne hne5'
                go_wp2_with fail
                go_region
                go_wp2_with fail
                go_round
                case rel =>
                  refine ⟨i + 1, E.set x i, opn.dropLast, .slice (some ⟨eg, 0, none⟩) E.length ecap, st', by go_num, ?_⟩
                  refine ⟨?_, by rw [hLL, ← hxl]; exact HRL.out, HB2.out.trans (HP.out.2.1.trans (below_drew (Below.refl _ _))), by rw [hLL]; exact HSU2.out, by rw [hLL]; omega, by simp; omega⟩
                  rw [hLL]; exact HP.out.1.next (below_drew (Below.refl _ _))
                case measure => (try rw [hLL]); simp only [intOf]; omega
              · have b5 : ((ki : Int) == 5) = false := eqn_no (k := ki) (n := 5) (by omega)
                have hrel' := HNX.out.2.2 (by rw [← HKR.out]; omega)
                have HRL := Lib.hid hrel'
                clear hrel'
                go_wp2_with fail
                go_round
                case rel =>
                  refine ⟨i + 1, E, opn, ev, st', by go_num, ?_⟩
                  exact ⟨by rw [hLL]; exact HRD2.out, by rw [hLL]; exact HRL.out, HB2.out, by rw [hLL]; exact HSU2.out, by rw [hLL]; omega, by omega⟩
                case measure => (try rw [hLL]); simp only [intOf]; omega
        · have hk2 : 2 ≤ ki := by
            rcases Nat.lt_or_ge ki 2 with h | h
            · exact absurd (rchk_small h) hchk
            · exact h
          obtain ⟨hkr, _⟩ := HKK.out.resolve_left (by omega)
          have hsy : Drl.says t = true := Drl.rkind_says (by omega)
          have hchk' := hchk
          rw [hkr] at hchk'
          have hst' := (HRE.out.readStep_chk hsy th HTD.out).2 hchk'
          have hsum := HSU.out
          rw [if_pos hk2] at hsum
          simp only [Drl.readFrom, hst'] at hsum
          have ee : (((Drl.rchk LL (Drl.kindsF LL) opn t ki th : Nat) : Int) != 0) = true := by simp [bne]; omega
          have c7 : w2.cell? ⟨R, 7, none⟩ = some (.int .i64 0) := cell_of HRD2.out.rd.blk rfl
          have c8 : w2.cell? ⟨R, 8, none⟩ = some (.int .i64 0) := cell_of HRD2.out.rd.blk rfl
          have z7 : w2.frozen? ⟨R, 7, none⟩ = false := free_of HRD2.out.rd.blk 7
          have z8 : w2.frozen? ⟨R, 8, none⟩ = false := free_of HRD2.out.rd.blk 8
          have hE := HRD2.out.rd.setErr (i, Drl.rchk LL (Drl.kindsF LL) opn t ki th) hchk
          have HP := Lib.hid (show RReadPost s w R (.returned (.pointer (some ⟨R, 0, none⟩))) ((w2.setCell ⟨R, 7, none⟩ (.int .i64 ((Drl.rchk LL (Drl.kindsF LL) opn t ki th : Nat) : Int))).setCell ⟨R, 8, none⟩ (.int .i64 ((i : Nat) : Int))) from by
            refine ⟨rfl, HB2.out.trans hE.2, ?_⟩
            rw [HOUT.out, ← hsum, ← hkr]
            exact ⟨_, _, _, hE.1⟩)
          clear hE hsum hst' hchk' hchk hkr
          go_wp2_with fail
          go_ret
          exact HP.out
      · have hi' : i = LL.length := by omega
        have hlt' : ¬ (i : Int) < (LL.length : Int) := by omega
        have hsum := HC.out.sum
        rw [hLL, hi', List.drop_length] at hsum
        have hsum2 : Drl.readFrom st [] = Drl.readFrom Drl.st0 (Drl.lines s.data.toList).tail := hsum
        have HSU := Lib.hid hsum2
        clear hsum hsum2
        go_wp2_with fail
        refine HK1.out _ _ ?_
        have hrel := HC.out.rel
        refine rread_tail3 s w R _ rfl _ wr (by omega) HC.out.rd HC.out.keep ?_ ?_ RFr10.intro
        · intro h0
          refine ⟨rfl, HC.out.keep, ?_⟩
          have ht0 : Drl.top st = 0 := by
            obtain ⟨tl, ho, _⟩ := hrel.good.inv.opn0
            have := hrel.opn_
            rw [h0, ho] at this
            cases tl with
            | nil => simp [Drl.top, ho]
            | cons a r => simp at this
          have hf : Drl.readFrom st [] = .ok st := by simp [Drl.readFrom, ht0]
          rw [HOUT.out, ← HSU.out, hf]
          refine ⟨.slice ao (Drl.LL s.data.toList).length lcap, kv, ev, Drl.kindsF (Drl.LL s.data.toList), E, ?_, ?_⟩
          · rw [← HCL.out]; exact HC.out.rd.rd
          · rw [h0, hi', ← hLL] at hrel; exact hrel
        · intro x hx w' hE hb'
          refine ⟨rfl, HC.out.keep.trans hb', ?_⟩
          have hne : opn ≠ [] := by rintro rfl; simp at hx
          have ht0 : Drl.top st ≠ 0 := by
            intro ht
            obtain ⟨tl, ho, hz⟩ := hrel.good.inv.opn0
            cases tl with
            | nil => have := hrel.opn_; rw [ho] at this; exact hne this
            | cons a r =>
              have hm := hrel.good.inv.top_mem
              have e2 : Drl.top st = (a :: r).getLast (by simp) := by
                rw [Drl.top_eq hrel.good.inv.ne]
                simp only [ho]
                rw [List.getLast_cons (by simp)]
              rw [ht] at e2
              exact hz (by rw [e2]; exact List.getLast_mem _)
          have hl := (hrel.last ht0).1
          have hxl : opn.getLastD 0 = x := by rw [List.getLastD_eq_getLast?, hx]; rfl
          have hf : Drl.readFrom st [] = .error (x, 290) := by simp only [Drl.readFrom]; rw [if_neg ht0, ← hl, hxl]
          rw [HOUT.out, ← HSU.out, hf]
          exact ⟨_, _, ev, hE⟩
end Go.Proofs.YtfbmlnkgjgnnhaaGreatDoor
