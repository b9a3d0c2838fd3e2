import Derived.Test.YtfbmlnkgjgnnhaaGreatDoorJR7
import Derived.Deep.RegionHeld3
import Derived.Deep.RegionWith
set_option linter.unusedSimpArgs false
set_option linter.unusedVariables false
namespace Go.Proofs.YtfbmlnkgjgnnhaaGreatDoor
open Go.RowKit
set_option linter.unusedVariables false

/-- a slice of line numbers -/
def OpnAt (w : World) (v : Value) (opn : List Nat) : Prop := RowT w 3 v (opn.map intV)

theorem stands_yes {L : List Drl.Str} {K : List Nat} {opn : List Nat} {l : Int} {k : Nat} (hk : k < opn.length) (hm : opn[k] < K.length) (hl : opn[k] < L.length) (h : K[opn[k]] = 4 ∧ Drl.rlet (Drl.wd (Drl.words L[opn[k]]) 1) = l) : Drl.standsB L K opn l = true := by
  unfold Drl.standsB
  rw [List.any_eq_true]
  refine ⟨opn[k], List.getElem_mem hk, ?_⟩
  rw [List.getD_eq_getElem?_getD, List.getD_eq_getElem?_getD, List.getElem?_eq_getElem hm, List.getElem?_eq_getElem hl]
  simp [h.1, h.2]
theorem stands_none {L : List Drl.Str} {K : List Nat} {opn : List Nat} {l : Int} (h : ∀ k (hk : k < opn.length) (hm : opn[k] < K.length) (hl : opn[k] < L.length), ¬ (K[opn[k]] = 4 ∧ Drl.rlet (Drl.wd (Drl.words L[opn[k]]) 1) = l)) (hlt : ∀ m ∈ opn, m < K.length ∧ m < L.length) : Drl.standsB L K opn l = false := by
  unfold Drl.standsB
  rw [List.any_eq_false]
  intro m hm
  obtain ⟨k, hk, rfl⟩ := List.getElem_of_mem hm
  obtain ⟨h1, h2⟩ := hlt _ hm
  rw [List.getD_eq_getElem?_getD, List.getD_eq_getElem?_getD, List.getElem?_eq_getElem h1, List.getElem?_eq_getElem h2]
  have := h k hk h1 h2
  simpa using this

theorem held_take {P : Program} {ops : Array Oper} {Q : Exit → Act → World → Prop} {md : Region.Mode} {S : World → Prop} (d : Nat) {i : Nat} {oi : Oper} {v : Value} {fuel : Nat} {listed : Array Bool} {a : Act} {w : World} (hi : ops[i]? = some oi) (hd : oi.dst = some d)
    (hs : Region.noSelect ops = true) (hf : Region.free md ops listed i = true) (hr : (Region.ready md ops listed).contains i = true) (hy : YieldsIf P ops S oi v a) (hS : S w)
    (h : wpAnyH P md ops Q S fuel (listed.setIfInBounds i true) (a.put (some d) v) w) (hQ : ∀ c a w, Q (.panic c) (a.put oi.dst v) w → Q (.panic c) a w := by exact fun _ _ _ h => h) : wpAnyH P md ops Q S (fuel + 1) listed a w :=
  wpAnyH_take hi hs hf hr hQ hy hS (by rw [hd]; exact h)

set_option maxRecDepth 100000 in
set_option maxHeartbeats 4000000 in
theorem rstands_any (w : World) (R : Nat) (lv kv ev ov : Value) (L : List Drl.Str) (K : List Nat) (E : List Int) (opn : List Nat) (h : Sh w R lv kv ev L K E) (ho : OpnAt w ov opn) (l : Int) (hn : L.length ≤ 65536) (hol : opn.length ≤ 65536) (hL : ∀ t ∈ L, t.length ≤ 65536)
    (hlt : ∀ m ∈ opn, m < K.length ∧ m < L.length) (hfor : ∀ m ∈ opn, ∀ (hm : m < K.length) (hl : m < L.length), K[m] = 4 → 2 ≤ (Drl.words L[m]).length) :
    Calls Tryz.prog 72 #[.pointer (some ⟨R, 0, none⟩), .int .i64 l, ov] w fun e w' => e = .returned (.bool (Drl.standsB L K opn l)) ∧ Below w.heap.size w w' := by
  have hlK := h.lenK
  have hlE := h.lenE
  obtain ⟨lb, lc, kb, kc, eb, ec, rfl, rfl, rfl, hlb, hkb, heb⟩ := h.rows
  have c0 := h.c0
  have c1 := h.c1
  have HD := Lib.hid hfor
  have HLT := Lib.hid hlt
  have HLB := Lib.hid hlb
  have HKB := Lib.hid hkb
  have HL := Lib.hid hL
  have H0 := Lib.hid c0
  have H1 := Lib.hid c1
  have HOW := Lib.hid ho
  obtain ⟨oao, ocap, rfl, hocells⟩ := ho
  have HO := Lib.hid hocells
  clear hfor hlb hkb heb hL h c0 c1 hlt hocells
  rw [List.length_map] at HOW ⊢
  go_enter Tryz.func72, Tryz.ntmps72
  go_wp2_with fail
  go_loopw [7] (fun i wr => ∃ k : Nat, k ≤ opn.length ∧ i = .int .i64 k ∧ (∀ k' (hk : k' < opn.length) (hm : opn[k'] < K.length) (hl : opn[k'] < L.length), k' < k → ¬ (K[opn[k']] = 4 ∧ Drl.rlet (Drl.wd (Drl.words L[opn[k']]) 1) = l)) ∧ Below w.heap.size w wr) (fun i _ => opn.length - (intOf i).toNat)
  case atStart => exact ⟨0, by omega, rfl, fun _ _ _ _ h => by omega, Below.refl _ _⟩
  case round =>
    obtain ⟨k, hk, rfl, hno, hb⟩ := hrel
    have HN := Lib.hid hno
    clear hno
    by_cases hlt : k < opn.length
    · obtain ⟨hm, hl⟩ := HLT.out opn[k] (List.getElem_mem hlt)
      obtain ⟨ob, rfl, d6⟩ : ∃ ob, oao = some ⟨ob, 0, none⟩ ∧ wr.cell? ⟨ob, k, none⟩ = some (.int .i64 (opn[k] : Nat)) := by
        rcases HO.out with h0 | ⟨g, c, fz, h1, h2, h3⟩
        · have := congrArg List.length h0; simp at this; subst this; simp at hlt
        · refine ⟨g, h1, below_cell hb (cell_of h2 (h3 k _ ?_))⟩
          simp [hlt, intV]
      have d0 := below_cell hb H0.out
      have d1 := below_cell hb H1.out
      have d3 := below_cell hb (HLB.out _ hl)
      have d4 := below_cell hb (HKB.out _ hm)
      obtain ⟨sl, hsl⟩ := exists_str L[opn[k]]
      rw [strV_eq hsl] at d3
      have hlt' : (k : Int) < (opn.length : Int) := by omega
      have hml' : ((opn[k] : Nat) : Int) < (L.length : Int) := by omega
      have w1 : IntKind.i64.wrap ((k : Int) + 1) = (k : Int) + 1 := IntWalk.i64_in _ (by omega)
      have HF := Lib.hid (HD.out opn[k] (List.getElem_mem hlt) hm hl)
      have HSY := Lib.hid (fun hh => stands_yes (L := L) (K := K) (l := l) hlt hm hl hh)
      have hnext : ¬ (K[opn[k]] = 4 ∧ Drl.rlet (Drl.wd (Drl.words L[opn[k]]) 1) = l) → (∀ k' (hk : k' < opn.length) (hm : opn[k'] < K.length) (hl : opn[k'] < L.length), k' < k + 1 → ¬ (K[opn[k']] = 4 ∧ Drl.rlet (Drl.wd (Drl.words L[opn[k']]) 1) = l)) := by
        intro hx k' hk hm hl hlt
        by_cases e : k' = k
        · subst e; exact hx
        · exact HN.out k' hk hm hl (by omega)
      have HNX := Lib.hid hnext
      clear hnext
      have hszl : sl.size ≤ 4294967296 := by
        have := HL.out L[opn[k]] (List.getElem_mem hl)
        rw [← size_len, hsl]; omega
      have HSL := Lib.hid hsl
      clear hsl
      generalize hmm : opn[k] = m at *
      generalize hKm : K[m] = km at *
      generalize hLm : L[m] = lm at *
      by_cases q1 : km = 4
      · have b1 : ((km : Int) == 4) = true := by rw [q1]; rfl
        have hw2 := HF.out q1
        have hi1 : (1 : Int) < ((Drl.words lm).length : Int) := by omega
        have Q1 := Lib.hid q1
        clear q1
        by_cases q2 : Drl.rlet (Drl.wd (Drl.words lm) 1) = l
        · have b2 : (Drl.rlet (Drl.wd (Drl.words lm) 1) == l) = true := by simpa using q2
          have HY := Lib.hid (HSY.out ⟨Q1.out, q2⟩)
          clear q2
          go_wp2_with fail
          refine wp_region_held_drew (S := fun w' => w'.cell? ⟨R, 1, none⟩ = some (.slice (some ⟨kb, 0, none⟩) L.length kc) ∧ w'.cell? ⟨ob, k, none⟩ = some (.int .i64 m) ∧ w'.cell? ⟨kb, m, none⟩ = some (.int .i64 km) ∧ w'.cell? ⟨R, 0, none⟩ = some (.slice (some ⟨lb, 0, none⟩) L.length lc) ∧ w'.cell? ⟨lb, m, none⟩ = some (.string sl)) (by kernel_rfl) ⟨d1, d6, d4, d0, d3⟩ (fun hHeld => ?_)
          refine held_take 14 (i := 0) (v := ?va0) (by simp only [List.getElem?_toArray, List.getElem?_cons_succ, List.getElem?_cons_zero]; rfl) rfl (by kernel_rfl) (by kernel_rfl) (by kernel_rfl) (Or.inl ⟨by rfl, ?hya0⟩) (by assumption) ?resta0
          case hya0 => intro w hSw; (try dsimp only at hSw); go_simp; (try (with_reducible rfl))
          (try simp only [Act.put, List.setIfInBounds_toArray, List.set_cons_zero, List.set_cons_succ])
          refine held_take 15 (i := 1) (v := ?va1) (by simp only [List.getElem?_toArray, List.getElem?_cons_succ, List.getElem?_cons_zero]; rfl) rfl (by kernel_rfl) (by kernel_rfl) (by kernel_rfl) (Or.inl ⟨by rfl, ?hya1⟩) (by assumption) ?resta1
          case hya1 => intro w hSw; (try dsimp only at hSw); go_simp; (try (with_reducible rfl))
          (try simp only [Act.put, List.setIfInBounds_toArray, List.set_cons_zero, List.set_cons_succ])
          refine held_take 16 (i := 2) (v := ?va2) (by simp only [List.getElem?_toArray, List.getElem?_cons_succ, List.getElem?_cons_zero]; rfl) rfl (by kernel_rfl) (by kernel_rfl) (by kernel_rfl) (Or.inl ⟨by rfl, ?hya2⟩) (by assumption) ?resta2
          case hya2 => intro w hSw; (try dsimp only at hSw); go_simp; (try (with_reducible rfl))
          (try simp only [Act.put, List.setIfInBounds_toArray, List.set_cons_zero, List.set_cons_succ])
          refine held_take 17 (i := 3) (v := ?va3) (by simp only [List.getElem?_toArray, List.getElem?_cons_succ, List.getElem?_cons_zero]; rfl) rfl (by kernel_rfl) (by kernel_rfl) (by kernel_rfl) (Or.inl ⟨by rfl, ?hya3⟩) (by assumption) ?resta3
          case hya3 => intro w hSw; (try dsimp only at hSw); go_simp; (try (with_reducible rfl))
          (try simp only [Act.put, List.setIfInBounds_toArray, List.set_cons_zero, List.set_cons_succ])
          refine held_take 18 (i := 4) (v := ?va4) (by simp only [List.getElem?_toArray, List.getElem?_cons_succ, List.getElem?_cons_zero]; rfl) rfl (by kernel_rfl) (by kernel_rfl) (by kernel_rfl) (Or.inl ⟨by rfl, ?hya4⟩) (by assumption) ?resta4
          case hya4 => intro w hSw; (try dsimp only at hSw); go_simp; (try (with_reducible rfl))
          (try simp only [Act.put, List.setIfInBounds_toArray, List.set_cons_zero, List.set_cons_succ])
          refine held_take 19 (i := 5) (v := ?va5) (by simp only [List.getElem?_toArray, List.getElem?_cons_succ, List.getElem?_cons_zero]; rfl) rfl (by kernel_rfl) (by kernel_rfl) (by kernel_rfl) (Or.inl ⟨by rfl, ?hya5⟩) (by assumption) ?resta5
          case hya5 => intro w hSw; (try dsimp only at hSw); go_simp; (try (with_reducible rfl))
          (try simp only [Act.put, List.setIfInBounds_toArray, List.set_cons_zero, List.set_cons_succ])
          refine held_take 20 (i := 6) (v := ?va6) (by simp only [List.getElem?_toArray, List.getElem?_cons_succ, List.getElem?_cons_zero]; rfl) rfl (by kernel_rfl) (by kernel_rfl) (by kernel_rfl) (Or.inl ⟨by rfl, ?hya6⟩) (by assumption) ?resta6
          case hya6 => intro w hSw; (try dsimp only at hSw); go_simp; (try (with_reducible rfl))
          (try simp only [Act.put, List.setIfInBounds_toArray, List.set_cons_zero, List.set_cons_succ])
          refine held_take 21 (i := 7) (v := ?va7) (by simp only [List.getElem?_toArray, List.getElem?_cons_succ, List.getElem?_cons_zero]; rfl) rfl (by kernel_rfl) (by kernel_rfl) (by kernel_rfl) (Or.inl ⟨by rfl, ?hya7⟩) (by assumption) ?resta7
          case hya7 => intro w hSw; (try dsimp only at hSw); go_simp; (try (with_reducible rfl))
          (try simp only [Act.put, List.setIfInBounds_toArray, List.set_cons_zero, List.set_cons_succ])
          refine held_take 22 (i := 8) (v := ?va8) (by simp only [List.getElem?_toArray, List.getElem?_cons_succ, List.getElem?_cons_zero]; rfl) rfl (by kernel_rfl) (by kernel_rfl) (by kernel_rfl) (Or.inl ⟨by rfl, ?hya8⟩) (by assumption) ?resta8
          case hya8 => intro w hSw; (try dsimp only at hSw); go_simp; (try (with_reducible rfl))
          (try simp only [Act.put, List.setIfInBounds_toArray, List.set_cons_zero, List.set_cons_succ])
          refine held_take 23 (i := 9) (v := ?va9) (by simp only [List.getElem?_toArray, List.getElem?_cons_succ, List.getElem?_cons_zero]; rfl) rfl (by kernel_rfl) (by kernel_rfl) (by kernel_rfl) (Or.inl ⟨by rfl, ?hya9⟩) (by assumption) ?resta9
          case hya9 => intro w hSw; (try dsimp only at hSw); go_simp; (try (with_reducible rfl))
          (try simp only [Act.put, List.setIfInBounds_toArray, List.set_cons_zero, List.set_cons_succ])
          refine held_take 24 (i := 10) (v := ?va10) (by simp only [List.getElem?_toArray, List.getElem?_cons_succ, List.getElem?_cons_zero]; rfl) rfl (by kernel_rfl) (by kernel_rfl) (by kernel_rfl) (Or.inl ⟨by rfl, ?hya10⟩) (by assumption) ?resta10
          case hya10 => intro w hSw; (try dsimp only at hSw); go_simp; (try (with_reducible rfl))
          (try simp only [Act.put, List.setIfInBounds_toArray, List.set_cons_zero, List.set_cons_succ])
          refine held_take 25 (i := 11) (v := ?va11) (by simp only [List.getElem?_toArray, List.getElem?_cons_succ, List.getElem?_cons_zero]; rfl) rfl (by kernel_rfl) (by kernel_rfl) (by kernel_rfl) (Or.inl ⟨by rfl, ?hya11⟩) (by assumption) ?resta11
          case hya11 => intro w hSw; (try dsimp only at hSw); go_simp; (try (with_reducible rfl))
          (try simp only [Act.put, List.setIfInBounds_toArray, List.set_cons_zero, List.set_cons_succ])
          refine held_take 26 (i := 12) (v := ?va12) (by simp only [List.getElem?_toArray, List.getElem?_cons_succ, List.getElem?_cons_zero]; rfl) rfl (by kernel_rfl) (by kernel_rfl) (by kernel_rfl) (Or.inl ⟨by rfl, ?hya12⟩) (by assumption) ?resta12
          case hya12 => intro w hSw; (try dsimp only at hSw); go_simp; (try (with_reducible rfl))
          (try simp only [Act.put, List.setIfInBounds_toArray, List.set_cons_zero, List.set_cons_succ])
          refine held_take 27 (i := 13) (v := ?va13) (by simp only [List.getElem?_toArray, List.getElem?_cons_succ, List.getElem?_cons_zero]; rfl) rfl (by kernel_rfl) (by kernel_rfl) (by kernel_rfl) (Or.inl ⟨by rfl, ?hya13⟩) (by assumption) ?resta13
          case hya13 => intro w hSw; (try dsimp only at hSw); go_simp; (try (with_reducible rfl))
          (try simp only [Act.put, List.setIfInBounds_toArray, List.set_cons_zero, List.set_cons_succ])
          refine held_take 28 (i := 14) (v := ?va14) (by simp only [List.getElem?_toArray, List.getElem?_cons_succ, List.getElem?_cons_zero]; rfl) rfl (by kernel_rfl) (by kernel_rfl) (by kernel_rfl) (Or.inl ⟨by rfl, ?hya14⟩) (by assumption) ?resta14
          case hya14 => intro w hSw; (try dsimp only at hSw); go_simp; (try (with_reducible rfl))
          (try simp only [Act.put, List.setIfInBounds_toArray, List.set_cons_zero, List.set_cons_succ])
          refine held_take 29 (i := 15) (v := ?va15) (by simp only [List.getElem?_toArray, List.getElem?_cons_succ, List.getElem?_cons_zero]; rfl) rfl (by kernel_rfl) (by kernel_rfl) (by kernel_rfl) (Or.inl ⟨by rfl, ?hya15⟩) (by assumption) ?resta15
          case hya15 => intro w hSw; (try dsimp only at hSw); go_simp; (try (with_reducible rfl))
          (try simp only [Act.put, List.setIfInBounds_toArray, List.set_cons_zero, List.set_cons_succ])
          refine held_take 30 (i := 16) (v := ?va16) (by simp only [List.getElem?_toArray, List.getElem?_cons_succ, List.getElem?_cons_zero]; rfl) rfl (by kernel_rfl) (by kernel_rfl) (by kernel_rfl) (Or.inl ⟨by rfl, ?hya16⟩) (by assumption) ?resta16
          case hya16 => intro w hSw; (try dsimp only at hSw); go_simp; (try (with_reducible rfl))
          (try simp only [Act.put, List.setIfInBounds_toArray, List.set_cons_zero, List.set_cons_succ])
          refine held_take 31 (i := 17) (v := ?va17) (by simp only [List.getElem?_toArray, List.getElem?_cons_succ, List.getElem?_cons_zero]; rfl) rfl (by kernel_rfl) (by kernel_rfl) (by kernel_rfl) (Or.inl ⟨by rfl, ?hya17⟩) (by assumption) ?resta17
          case hya17 => intro w hSw; (try dsimp only at hSw); go_simp; (try (with_reducible rfl))
          (try simp only [Act.put, List.setIfInBounds_toArray, List.set_cons_zero, List.set_cons_succ])
          refine held_take 32 (i := 18) (v := ?va18) (by simp only [List.getElem?_toArray, List.getElem?_cons_succ, List.getElem?_cons_zero]; rfl) rfl (by kernel_rfl) (by kernel_rfl) (by kernel_rfl) (Or.inl ⟨by rfl, ?hya18⟩) (by assumption) ?resta18
          case hya18 => intro w hSw; (try dsimp only at hSw); go_simp; (try (with_reducible rfl))
          (try simp only [Act.put, List.setIfInBounds_toArray, List.set_cons_zero, List.set_cons_succ])
          refine held_take 33 (i := 19) (v := ?va19) (by simp only [List.getElem?_toArray, List.getElem?_cons_succ, List.getElem?_cons_zero]; rfl) rfl (by kernel_rfl) (by kernel_rfl) (by kernel_rfl) (Or.inl ⟨by rfl, ?hya19⟩) (by assumption) ?resta19
          case hya19 => intro w hSw; (try dsimp only at hSw); go_simp; (try (with_reducible rfl))
          (try simp only [Act.put, List.setIfInBounds_toArray, List.set_cons_zero, List.set_cons_succ])
          refine held_take 34 (i := 20) (v := ?va20) (by simp only [List.getElem?_toArray, List.getElem?_cons_succ, List.getElem?_cons_zero]; rfl) rfl (by kernel_rfl) (by kernel_rfl) (by kernel_rfl) (Or.inl ⟨by rfl, ?hya20⟩) (by assumption) ?resta20
          case hya20 => intro w hSw; (try dsimp only at hSw); go_simp; (try (with_reducible rfl))
          (try simp only [Act.put, List.setIfInBounds_toArray, List.set_cons_zero, List.set_cons_succ])
          refine held_take 35 (i := 21) (v := ?va21) (by simp only [List.getElem?_toArray, List.getElem?_cons_succ, List.getElem?_cons_zero]; rfl) rfl (by kernel_rfl) (by kernel_rfl) (by kernel_rfl) (Or.inl ⟨by rfl, ?hya21⟩) (by assumption) ?resta21
          case hya21 => intro w hSw; (try dsimp only at hSw); go_simp; (try (with_reducible rfl))
          (try simp only [Act.put, List.setIfInBounds_toArray, List.set_cons_zero, List.set_cons_succ])
          refine held_take 40 (i := 26) (v := ?va26) (by simp only [List.getElem?_toArray, List.getElem?_cons_succ, List.getElem?_cons_zero]; rfl) rfl (by kernel_rfl) (by kernel_rfl) (by kernel_rfl) (Or.inl ⟨by rfl, ?hya26⟩) (by assumption) ?resta26
          case hya26 => intro w hSw; (try dsimp only at hSw); go_simp; (try (with_reducible rfl))
          (try simp only [Act.put, List.setIfInBounds_toArray, List.set_cons_zero, List.set_cons_succ])
          refine wpAnyH_ready (rs := [22]) (by kernel_rfl) (by simp) ?_
          refine AllReadyH.cons (by simp only [List.getElem?_toArray, List.getElem?_cons_succ, List.getElem?_cons_zero]; rfl) (fun K hK => ?_) AllReadyH.nil
          go_simp
          refine (rwords_any sl _ hszl).mono ?_
          rintro e w1 ⟨g, cap, rfl, hW, hb1⟩
          rw [HSL.out] at hW ⊢
          obtain ⟨s1, hs1, hc1⟩ := hW.str 1 (by omega)
          dsimp only
          refine hK.out _ _ ⟨below_cell hb1 d1, below_cell hb1 d6, below_cell hb1 d4, below_cell hb1 d0, below_cell hb1 d3⟩ (fun hHeld => ?_)
          clear hK K
          (try simp only [Act.put, List.setIfInBounds_toArray, List.set_cons_zero, List.set_cons_succ])
          refine held_take 37 (i := 23) (v := ?va23) (by simp only [List.getElem?_toArray, List.getElem?_cons_succ, List.getElem?_cons_zero]; rfl) rfl (by kernel_rfl) (by kernel_rfl) (by kernel_rfl) (Or.inl ⟨by rfl, ?hya23⟩) (by assumption) ?resta23
          case hya23 => intro w hSw; (try dsimp only at hSw); go_simp; (try (with_reducible rfl))
          (try simp only [Act.put, List.setIfInBounds_toArray, List.set_cons_zero, List.set_cons_succ])
          refine wpAnyH_ready (rs := [24]) (by kernel_rfl) (by simp) ?_
          refine AllReadyH.cons (by simp only [List.getElem?_toArray, List.getElem?_cons_succ, List.getElem?_cons_zero]; rfl) (fun K hK => ?_) AllReadyH.nil
          go_simp
          refine hK.out _ _ hHeld (fun hHeld => ?_)
          clear hK K
          (try simp only [Act.put, List.setIfInBounds_toArray, List.set_cons_zero, List.set_cons_succ])
          refine wpAnyH_ready (rs := [25]) (by kernel_rfl) (by simp) ?_
          refine AllReadyH.cons (by simp only [List.getElem?_toArray, List.getElem?_cons_succ, List.getElem?_cons_zero]; rfl) (fun K hK => ?_) AllReadyH.nil
          go_simp
          refine (rletter_any s1 _).mono ?_
          rintro e w2 ⟨rfl, rfl⟩
          rw [hs1]
          dsimp only
          refine hK.out _ _ hHeld (fun hHeld => ?_)
          clear hK K
          (try simp only [Act.put, List.setIfInBounds_toArray, List.set_cons_zero, List.set_cons_succ])
          refine held_take 41 (i := 27) (v := ?va27) (by simp only [List.getElem?_toArray, List.getElem?_cons_succ, List.getElem?_cons_zero]; rfl) rfl (by kernel_rfl) (by kernel_rfl) (by kernel_rfl) (Or.inl ⟨by rfl, ?hya27⟩) (by assumption) ?resta27
          case hya27 => intro w hSw; (try dsimp only at hSw); go_simp; (try (with_reducible rfl))
          (try simp only [Act.put, List.setIfInBounds_toArray, List.set_cons_zero, List.set_cons_succ])
          refine held_take 42 (i := 28) (v := ?va28) (by simp only [List.getElem?_toArray, List.getElem?_cons_succ, List.getElem?_cons_zero]; rfl) rfl (by kernel_rfl) (by kernel_rfl) (by kernel_rfl) (Or.inl ⟨by rfl, ?hya28⟩) (by assumption) ?resta28
          case hya28 => intro w hSw; (try dsimp only at hSw); go_simp; (try (with_reducible rfl))
          (try simp only [Act.put, List.setIfInBounds_toArray, List.set_cons_zero, List.set_cons_succ])
          refine wpAnyH_done (by kernel_rfl) ?_ _
          have HB1 := Lib.hid (hb.drew.trans (hb1.mono hb.size))
          clear hHeld hW hb1 hs1 hc1 d0 d1 d3 d4 d6
          go_wp2_with fail
          go_ret
          exact ⟨by rw [HY.out]; rfl, HB1.out⟩
        · have b2 : (Drl.rlet (Drl.wd (Drl.words lm) 1) == l) = false := by simpa using q2
          have HX := Lib.hid (HNX.out (fun e => q2 e.2))
          clear q2
          go_wp2_with fail
          refine wp_region_held_drew (S := fun w' => w'.cell? ⟨R, 1, none⟩ = some (.slice (some ⟨kb, 0, none⟩) L.length kc) ∧ w'.cell? ⟨ob, k, none⟩ = some (.int .i64 m) ∧ w'.cell? ⟨kb, m, none⟩ = some (.int .i64 km) ∧ w'.cell? ⟨R, 0, none⟩ = some (.slice (some ⟨lb, 0, none⟩) L.length lc) ∧ w'.cell? ⟨lb, m, none⟩ = some (.string sl)) (by kernel_rfl) ⟨d1, d6, d4, d0, d3⟩ (fun hHeld => ?_)
          refine held_take 14 (i := 0) (v := ?vaa0) (by simp only [List.getElem?_toArray, List.getElem?_cons_succ, List.getElem?_cons_zero]; rfl) rfl (by kernel_rfl) (by kernel_rfl) (by kernel_rfl) (Or.inl ⟨by rfl, ?hyaa0⟩) (by assumption) ?restaa0
          case hyaa0 => intro w hSw; (try dsimp only at hSw); go_simp; (try (with_reducible rfl))
          (try simp only [Act.put, List.setIfInBounds_toArray, List.set_cons_zero, List.set_cons_succ])
          refine held_take 15 (i := 1) (v := ?vaa1) (by simp only [List.getElem?_toArray, List.getElem?_cons_succ, List.getElem?_cons_zero]; rfl) rfl (by kernel_rfl) (by kernel_rfl) (by kernel_rfl) (Or.inl ⟨by rfl, ?hyaa1⟩) (by assumption) ?restaa1
          case hyaa1 => intro w hSw; (try dsimp only at hSw); go_simp; (try (with_reducible rfl))
          (try simp only [Act.put, List.setIfInBounds_toArray, List.set_cons_zero, List.set_cons_succ])
          refine held_take 16 (i := 2) (v := ?vaa2) (by simp only [List.getElem?_toArray, List.getElem?_cons_succ, List.getElem?_cons_zero]; rfl) rfl (by kernel_rfl) (by kernel_rfl) (by kernel_rfl) (Or.inl ⟨by rfl, ?hyaa2⟩) (by assumption) ?restaa2
          case hyaa2 => intro w hSw; (try dsimp only at hSw); go_simp; (try (with_reducible rfl))
          (try simp only [Act.put, List.setIfInBounds_toArray, List.set_cons_zero, List.set_cons_succ])
          refine held_take 17 (i := 3) (v := ?vaa3) (by simp only [List.getElem?_toArray, List.getElem?_cons_succ, List.getElem?_cons_zero]; rfl) rfl (by kernel_rfl) (by kernel_rfl) (by kernel_rfl) (Or.inl ⟨by rfl, ?hyaa3⟩) (by assumption) ?restaa3
          case hyaa3 => intro w hSw; (try dsimp only at hSw); go_simp; (try (with_reducible rfl))
          (try simp only [Act.put, List.setIfInBounds_toArray, List.set_cons_zero, List.set_cons_succ])
          refine held_take 18 (i := 4) (v := ?vaa4) (by simp only [List.getElem?_toArray, List.getElem?_cons_succ, List.getElem?_cons_zero]; rfl) rfl (by kernel_rfl) (by kernel_rfl) (by kernel_rfl) (Or.inl ⟨by rfl, ?hyaa4⟩) (by assumption) ?restaa4
          case hyaa4 => intro w hSw; (try dsimp only at hSw); go_simp; (try (with_reducible rfl))
          (try simp only [Act.put, List.setIfInBounds_toArray, List.set_cons_zero, List.set_cons_succ])
          refine held_take 19 (i := 5) (v := ?vaa5) (by simp only [List.getElem?_toArray, List.getElem?_cons_succ, List.getElem?_cons_zero]; rfl) rfl (by kernel_rfl) (by kernel_rfl) (by kernel_rfl) (Or.inl ⟨by rfl, ?hyaa5⟩) (by assumption) ?restaa5
          case hyaa5 => intro w hSw; (try dsimp only at hSw); go_simp; (try (with_reducible rfl))
          (try simp only [Act.put, List.setIfInBounds_toArray, List.set_cons_zero, List.set_cons_succ])
          refine held_take 20 (i := 6) (v := ?vaa6) (by simp only [List.getElem?_toArray, List.getElem?_cons_succ, List.getElem?_cons_zero]; rfl) rfl (by kernel_rfl) (by kernel_rfl) (by kernel_rfl) (Or.inl ⟨by rfl, ?hyaa6⟩) (by assumption) ?restaa6
          case hyaa6 => intro w hSw; (try dsimp only at hSw); go_simp; (try (with_reducible rfl))
          (try simp only [Act.put, List.setIfInBounds_toArray, List.set_cons_zero, List.set_cons_succ])
          refine held_take 21 (i := 7) (v := ?vaa7) (by simp only [List.getElem?_toArray, List.getElem?_cons_succ, List.getElem?_cons_zero]; rfl) rfl (by kernel_rfl) (by kernel_rfl) (by kernel_rfl) (Or.inl ⟨by rfl, ?hyaa7⟩) (by assumption) ?restaa7
          case hyaa7 => intro w hSw; (try dsimp only at hSw); go_simp; (try (with_reducible rfl))
          (try simp only [Act.put, List.setIfInBounds_toArray, List.set_cons_zero, List.set_cons_succ])
          refine held_take 22 (i := 8) (v := ?vaa8) (by simp only [List.getElem?_toArray, List.getElem?_cons_succ, List.getElem?_cons_zero]; rfl) rfl (by kernel_rfl) (by kernel_rfl) (by kernel_rfl) (Or.inl ⟨by rfl, ?hyaa8⟩) (by assumption) ?restaa8
          case hyaa8 => intro w hSw; (try dsimp only at hSw); go_simp; (try (with_reducible rfl))
          (try simp only [Act.put, List.setIfInBounds_toArray, List.set_cons_zero, List.set_cons_succ])
          refine held_take 23 (i := 9) (v := ?vaa9) (by simp only [List.getElem?_toArray, List.getElem?_cons_succ, List.getElem?_cons_zero]; rfl) rfl (by kernel_rfl) (by kernel_rfl) (by kernel_rfl) (Or.inl ⟨by rfl, ?hyaa9⟩) (by assumption) ?restaa9
          case hyaa9 => intro w hSw; (try dsimp only at hSw); go_simp; (try (with_reducible rfl))
          (try simp only [Act.put, List.setIfInBounds_toArray, List.set_cons_zero, List.set_cons_succ])
          refine held_take 24 (i := 10) (v := ?vaa10) (by simp only [List.getElem?_toArray, List.getElem?_cons_succ, List.getElem?_cons_zero]; rfl) rfl (by kernel_rfl) (by kernel_rfl) (by kernel_rfl) (Or.inl ⟨by rfl, ?hyaa10⟩) (by assumption) ?restaa10
          case hyaa10 => intro w hSw; (try dsimp only at hSw); go_simp; (try (with_reducible rfl))
          (try simp only [Act.put, List.setIfInBounds_toArray, List.set_cons_zero, List.set_cons_succ])
          refine held_take 25 (i := 11) (v := ?vaa11) (by simp only [List.getElem?_toArray, List.getElem?_cons_succ, List.getElem?_cons_zero]; rfl) rfl (by kernel_rfl) (by kernel_rfl) (by kernel_rfl) (Or.inl ⟨by rfl, ?hyaa11⟩) (by assumption) ?restaa11
          case hyaa11 => intro w hSw; (try dsimp only at hSw); go_simp; (try (with_reducible rfl))
          (try simp only [Act.put, List.setIfInBounds_toArray, List.set_cons_zero, List.set_cons_succ])
          refine held_take 26 (i := 12) (v := ?vaa12) (by simp only [List.getElem?_toArray, List.getElem?_cons_succ, List.getElem?_cons_zero]; rfl) rfl (by kernel_rfl) (by kernel_rfl) (by kernel_rfl) (Or.inl ⟨by rfl, ?hyaa12⟩) (by assumption) ?restaa12
          case hyaa12 => intro w hSw; (try dsimp only at hSw); go_simp; (try (with_reducible rfl))
          (try simp only [Act.put, List.setIfInBounds_toArray, List.set_cons_zero, List.set_cons_succ])
          refine held_take 27 (i := 13) (v := ?vaa13) (by simp only [List.getElem?_toArray, List.getElem?_cons_succ, List.getElem?_cons_zero]; rfl) rfl (by kernel_rfl) (by kernel_rfl) (by kernel_rfl) (Or.inl ⟨by rfl, ?hyaa13⟩) (by assumption) ?restaa13
          case hyaa13 => intro w hSw; (try dsimp only at hSw); go_simp; (try (with_reducible rfl))
          (try simp only [Act.put, List.setIfInBounds_toArray, List.set_cons_zero, List.set_cons_succ])
          refine held_take 28 (i := 14) (v := ?vaa14) (by simp only [List.getElem?_toArray, List.getElem?_cons_succ, List.getElem?_cons_zero]; rfl) rfl (by kernel_rfl) (by kernel_rfl) (by kernel_rfl) (Or.inl ⟨by rfl, ?hyaa14⟩) (by assumption) ?restaa14
          case hyaa14 => intro w hSw; (try dsimp only at hSw); go_simp; (try (with_reducible rfl))
          (try simp only [Act.put, List.setIfInBounds_toArray, List.set_cons_zero, List.set_cons_succ])
          refine held_take 29 (i := 15) (v := ?vaa15) (by simp only [List.getElem?_toArray, List.getElem?_cons_succ, List.getElem?_cons_zero]; rfl) rfl (by kernel_rfl) (by kernel_rfl) (by kernel_rfl) (Or.inl ⟨by rfl, ?hyaa15⟩) (by assumption) ?restaa15
          case hyaa15 => intro w hSw; (try dsimp only at hSw); go_simp; (try (with_reducible rfl))
          (try simp only [Act.put, List.setIfInBounds_toArray, List.set_cons_zero, List.set_cons_succ])
          refine held_take 30 (i := 16) (v := ?vaa16) (by simp only [List.getElem?_toArray, List.getElem?_cons_succ, List.getElem?_cons_zero]; rfl) rfl (by kernel_rfl) (by kernel_rfl) (by kernel_rfl) (Or.inl ⟨by rfl, ?hyaa16⟩) (by assumption) ?restaa16
          case hyaa16 => intro w hSw; (try dsimp only at hSw); go_simp; (try (with_reducible rfl))
          (try simp only [Act.put, List.setIfInBounds_toArray, List.set_cons_zero, List.set_cons_succ])
          refine held_take 31 (i := 17) (v := ?vaa17) (by simp only [List.getElem?_toArray, List.getElem?_cons_succ, List.getElem?_cons_zero]; rfl) rfl (by kernel_rfl) (by kernel_rfl) (by kernel_rfl) (Or.inl ⟨by rfl, ?hyaa17⟩) (by assumption) ?restaa17
          case hyaa17 => intro w hSw; (try dsimp only at hSw); go_simp; (try (with_reducible rfl))
          (try simp only [Act.put, List.setIfInBounds_toArray, List.set_cons_zero, List.set_cons_succ])
          refine held_take 32 (i := 18) (v := ?vaa18) (by simp only [List.getElem?_toArray, List.getElem?_cons_succ, List.getElem?_cons_zero]; rfl) rfl (by kernel_rfl) (by kernel_rfl) (by kernel_rfl) (Or.inl ⟨by rfl, ?hyaa18⟩) (by assumption) ?restaa18
          case hyaa18 => intro w hSw; (try dsimp only at hSw); go_simp; (try (with_reducible rfl))
          (try simp only [Act.put, List.setIfInBounds_toArray, List.set_cons_zero, List.set_cons_succ])
          refine held_take 33 (i := 19) (v := ?vaa19) (by simp only [List.getElem?_toArray, List.getElem?_cons_succ, List.getElem?_cons_zero]; rfl) rfl (by kernel_rfl) (by kernel_rfl) (by kernel_rfl) (Or.inl ⟨by rfl, ?hyaa19⟩) (by assumption) ?restaa19
          case hyaa19 => intro w hSw; (try dsimp only at hSw); go_simp; (try (with_reducible rfl))
          (try simp only [Act.put, List.setIfInBounds_toArray, List.set_cons_zero, List.set_cons_succ])
          refine held_take 34 (i := 20) (v := ?vaa20) (by simp only [List.getElem?_toArray, List.getElem?_cons_succ, List.getElem?_cons_zero]; rfl) rfl (by kernel_rfl) (by kernel_rfl) (by kernel_rfl) (Or.inl ⟨by rfl, ?hyaa20⟩) (by assumption) ?restaa20
          case hyaa20 => intro w hSw; (try dsimp only at hSw); go_simp; (try (with_reducible rfl))
          (try simp only [Act.put, List.setIfInBounds_toArray, List.set_cons_zero, List.set_cons_succ])
          refine held_take 35 (i := 21) (v := ?vaa21) (by simp only [List.getElem?_toArray, List.getElem?_cons_succ, List.getElem?_cons_zero]; rfl) rfl (by kernel_rfl) (by kernel_rfl) (by kernel_rfl) (Or.inl ⟨by rfl, ?hyaa21⟩) (by assumption) ?restaa21
          case hyaa21 => intro w hSw; (try dsimp only at hSw); go_simp; (try (with_reducible rfl))
          (try simp only [Act.put, List.setIfInBounds_toArray, List.set_cons_zero, List.set_cons_succ])
          refine held_take 40 (i := 26) (v := ?vaa26) (by simp only [List.getElem?_toArray, List.getElem?_cons_succ, List.getElem?_cons_zero]; rfl) rfl (by kernel_rfl) (by kernel_rfl) (by kernel_rfl) (Or.inl ⟨by rfl, ?hyaa26⟩) (by assumption) ?restaa26
          case hyaa26 => intro w hSw; (try dsimp only at hSw); go_simp; (try (with_reducible rfl))
          (try simp only [Act.put, List.setIfInBounds_toArray, List.set_cons_zero, List.set_cons_succ])
          refine wpAnyH_ready (rs := [22]) (by kernel_rfl) (by simp) ?_
          refine AllReadyH.cons (by simp only [List.getElem?_toArray, List.getElem?_cons_succ, List.getElem?_cons_zero]; rfl) (fun K hK => ?_) AllReadyH.nil
          go_simp
          refine (rwords_any sl _ hszl).mono ?_
          rintro e w1 ⟨g, cap, rfl, hW, hb1⟩
          rw [HSL.out] at hW ⊢
          obtain ⟨s1, hs1, hc1⟩ := hW.str 1 (by omega)
          dsimp only
          refine hK.out _ _ ⟨below_cell hb1 d1, below_cell hb1 d6, below_cell hb1 d4, below_cell hb1 d0, below_cell hb1 d3⟩ (fun hHeld => ?_)
          clear hK K
          (try simp only [Act.put, List.setIfInBounds_toArray, List.set_cons_zero, List.set_cons_succ])
          refine held_take 37 (i := 23) (v := ?vaa23) (by simp only [List.getElem?_toArray, List.getElem?_cons_succ, List.getElem?_cons_zero]; rfl) rfl (by kernel_rfl) (by kernel_rfl) (by kernel_rfl) (Or.inl ⟨by rfl, ?hyaa23⟩) (by assumption) ?restaa23
          case hyaa23 => intro w hSw; (try dsimp only at hSw); go_simp; (try (with_reducible rfl))
          (try simp only [Act.put, List.setIfInBounds_toArray, List.set_cons_zero, List.set_cons_succ])
          refine wpAnyH_ready (rs := [24]) (by kernel_rfl) (by simp) ?_
          refine AllReadyH.cons (by simp only [List.getElem?_toArray, List.getElem?_cons_succ, List.getElem?_cons_zero]; rfl) (fun K hK => ?_) AllReadyH.nil
          go_simp
          refine hK.out _ _ hHeld (fun hHeld => ?_)
          clear hK K
          (try simp only [Act.put, List.setIfInBounds_toArray, List.set_cons_zero, List.set_cons_succ])
          refine wpAnyH_ready (rs := [25]) (by kernel_rfl) (by simp) ?_
          refine AllReadyH.cons (by simp only [List.getElem?_toArray, List.getElem?_cons_succ, List.getElem?_cons_zero]; rfl) (fun K hK => ?_) AllReadyH.nil
          go_simp
          refine (rletter_any s1 _).mono ?_
          rintro e w2 ⟨rfl, rfl⟩
          rw [hs1]
          dsimp only
          refine hK.out _ _ hHeld (fun hHeld => ?_)
          clear hK K
          (try simp only [Act.put, List.setIfInBounds_toArray, List.set_cons_zero, List.set_cons_succ])
          refine held_take 41 (i := 27) (v := ?vaa27) (by simp only [List.getElem?_toArray, List.getElem?_cons_succ, List.getElem?_cons_zero]; rfl) rfl (by kernel_rfl) (by kernel_rfl) (by kernel_rfl) (Or.inl ⟨by rfl, ?hyaa27⟩) (by assumption) ?restaa27
          case hyaa27 => intro w hSw; (try dsimp only at hSw); go_simp; (try (with_reducible rfl))
          (try simp only [Act.put, List.setIfInBounds_toArray, List.set_cons_zero, List.set_cons_succ])
          refine held_take 42 (i := 28) (v := ?vaa28) (by simp only [List.getElem?_toArray, List.getElem?_cons_succ, List.getElem?_cons_zero]; rfl) rfl (by kernel_rfl) (by kernel_rfl) (by kernel_rfl) (Or.inl ⟨by rfl, ?hyaa28⟩) (by assumption) ?restaa28
          case hyaa28 => intro w hSw; (try dsimp only at hSw); go_simp; (try (with_reducible rfl))
          (try simp only [Act.put, List.setIfInBounds_toArray, List.set_cons_zero, List.set_cons_succ])
          refine wpAnyH_done (by kernel_rfl) ?_ _
          have HB1 := Lib.hid (hb.drew.trans (hb1.mono hb.size))
          clear hHeld hW hb1 hs1 hc1 d0 d1 d3 d4 d6
          go_wp2_with fail
          go_roundw
          case rel => exact ⟨k + 1, by omega, by go_num, HX.out, HB1.out⟩
          case measure => simp only [intOf]; omega
      · have b1 : ((km : Int) == 4) = false := by simp; omega
        have HX := Lib.hid (HNX.out (fun e => q1 e.1))
        clear q1
        go_wp2_with fail
        go_quiet (fail)
        go_wp2_with fail
        go_roundw
        case rel =>
          exact ⟨k + 1, by omega, by go_num, HX.out, below_dN hb nq⟩
        case measure => simp only [intOf]; omega
    · have hlt' : ¬ (k : Int) < (opn.length : Int) := by omega
      have hfin := stands_none (L := L) (K := K) (l := l) (fun k' hk' hm hl => HN.out k' hk' hm hl (by omega)) HLT.out
      have HX := Lib.hid hfin
      clear hfin
      go_wp2_with fail
      go_ret
      exact ⟨by rw [HX.out]; rfl, hb⟩
end Go.Proofs.YtfbmlnkgjgnnhaaGreatDoor
