import Derived.Test.YtfbmlnkgjgnnhaaGreatDoorJR12a
import Derived.Test.YtfbmlnkgjgnnhaaGreatDoorJR12b
import Derived.Test.YtfbmlnkgjgnnhaaGreatDoorJR12c
import Derived.Test.YtfbmlnkgjgnnhaaGreatDoorJR12d
import Derived.Test.YtfbmlnkgjgnnhaaGreatDoorJR12e
import Derived.Test.YtfbmlnkgjgnnhaaGreatDoorJR12f
set_option linter.unusedSimpArgs false
set_option linter.unusedVariables false
namespace Go.Proofs.YtfbmlnkgjgnnhaaGreatDoor
open Go.RowKit

set_option maxRecDepth 100000
set_option maxHeartbeats 4000000

theorem walk_exit {w0 : World} {B R V lb lc kb kc eb ec : Nat} {cl : Int} {L : List Drl.Str} {K : List Nat} {E : List Int} {fs : Drl.RSt} {a0 : Int} {b : Nat} {v : Drl.Nums} {r : Except Drl.Err Drl.PSt} {k : Nat} (Q0 : Exit → Act → World → Prop) (c : Code) (hc : walkBody = some c) (u : Nat → Value) (wr : World) (m i : Nat)
    (hx : ¬ i < b ∨ ∃ y : Int, wr.cell? ⟨R, 7, none⟩ = some (.int .i64 y) ∧ y ≠ 0) (hexit : ∀ a' : Act, a'.defers = [] → Q0 (.exit 0) a' wr) :
    c.wp Tryz.prog (Exit.then (fun a' w' => WI w0 B R V lb lc kb kc eb ec cl L K E fs a0 b v r k a' w' ∧ Wmu b a' w' < m) Q0) { tmps := #[.pointer (some ⟨R, 0, none⟩), .int .i64 (a0 : Int), .int .i64 (b : Nat), .agg (letCells v), undef, undef, undef, .pointer (some ⟨V, 0, none⟩), .int .i64 (i : Nat), u 9, u 10, u 11, u 12, u 13, u 14, u 15, u 16, u 17, u 18, u 19, u 20, u 21, u 22, u 23, u 24, u 25, u 26, u 27, u 28, u 29, u 30, u 31, u 32, u 33, u 34, u 35, u 36, u 37, u 38, u 39, u 40, u 41, u 42, u 43, u 44, u 45, u 46, u 47, u 48, u 49, u 50, u 51, u 52, u 53, u 54, u 55, u 56, u 57, u 58, u 59, u 60, u 61, u 62, u 63, u 64, u 65, u 66, u 67, u 68, u 69, u 70, u 71, u 72, u 73, u 74, u 75, u 76, u 77, u 78, u 79, u 80, u 81, u 82, u 83, u 84, u 85, u 86, u 87, u 88, u 89, u 90, u 91, u 92, u 93, u 94, u 95, u 96, u 97, u 98, u 99, u 100, u 101, u 102, u 103, u 104, u 105, u 106, u 107, u 108, u 109, u 110, u 111, u 112, u 113, u 114, u 115, u 116, u 117, u 118, u 119, u 120, u 121, u 122, u 123, u 124, u 125, u 126, u 127, u 128, u 129, u 130, u 131, u 132, u 133, u 134, u 135, u 136, u 137, u 138, u 139, u 140, u 141, u 142, u 143, u 144, u 145, u 146, u 147, u 148, u 149, u 150, u 151, u 152, u 153, u 154, u 155, u 156, u 157, u 158, u 159, u 160, u 161, u 162, u 163, u 164, u 165, u 166, u 167, u 168, u 169, u 170, u 171, u 172, u 173, u 174, u 175, u 176, u 177, u 178, u 179, u 180, u 181, u 182, u 183, u 184, u 185, u 186, u 187, u 188, u 189, u 190, u 191, u 192, u 193, u 194, u 195, u 196, u 197, u 198, u 199, u 200, u 201, u 202, u 203, u 204, u 205, u 206, u 207, u 208, u 209, u 210, u 211, u 212, u 213, u 214, u 215, u 216, u 217, u 218, u 219, u 220, u 221, u 222, u 223, u 224, u 225, u 226], defers := [] } wr := by
  have e := hc.symm.trans (rfl : walkBody = some _)
  obtain rfl := Option.some.inj e
  clear e hc
  by_cases hib : i < b
  · obtain ⟨y, c7, hy⟩ : ∃ y : Int, wr.cell? ⟨R, 7, none⟩ = some (.int .i64 y) ∧ y ≠ 0 := by
      rcases hx with h | h
      · exact absurd hib h
      · exact h
    have hib' : (i : Int) < (b : Int) := by omega
    have e7 : (y == 0) = false := by simpa using hy
    have HE := Lib.hid hexit
    clear hx hy hexit
    go_wp2_with fail
    exact HE.out _ rfl
  · have hib' : ¬ (i : Int) < (b : Int) := by omega
    have HE := Lib.hid hexit
    clear hx hexit
    go_wp2_with fail
    exact HE.out _ rfl

/-- what the questions lean on, out of what was read -/
theorem Fin.hdef {L : List Drl.Str} {K : List Nat} {E : List Int} {fs : Drl.RSt} {j : Nat} {opn : List Nat} (h : Drl.Rel L K j E opn fs) : ∀ k (hk : k < K.length) (hke : k < E.length) (hkl : k < L.length), K[k] = 2 → 0 ≤ E[k] → 2 ≤ (Drl.words L[k]).length := by
  intro k hk hke hkl h1 h2
  obtain ⟨m, m1, m2⟩ := h.defs k (by rw [List.getElem?_eq_getElem hk, h1]) ⟨E[k].toNat, by rw [List.getElem?_eq_getElem hke]; congr 1; omega⟩
  obtain ⟨n1, n2, n3, n4, _⟩ := h.names _ m2
  dsimp only at n1 n2 n4
  obtain ⟨_, hL, hw, _⟩ := h.node m n1 n2
  rw [m1, List.getElem?_eq_getElem hkl] at hL
  rw [Option.some.inj hL, ← hw]
  exact n4

theorem walk_round {w0 : World} {B R V lb lc kb kc eb ec : Nat} {cl : Int} {L : List Drl.Str} {K : List Nat} {E : List Int} {fs : Drl.RSt} {a0 : Int} {b : Nat} {v : Drl.Nums} {r : Except Drl.Err Drl.PSt} {k : Nat} (X : WCtx w0 B R V lb lc kb kc eb ec cl L K E fs b v k) (Q0 : Exit → Act → World → Prop) (c : Code) (hc : walkBody = some c) (a : Act) (wr : World)
    (hI : WI w0 B R V lb lc kb kc eb ec cl L K E fs a0 b v r k a wr)
    (hexit : ∀ (i : Nat) (a' : Act), a'.defers = [] → WRel w0 B R V lb lc kb kc eb ec cl L K E fs b v r k i wr → (¬ i < b ∨ ∃ x, ErrSh wr R (.slice (some ⟨lb, 0, none⟩) L.length lc) (.slice (some ⟨kb, 0, none⟩) L.length kc) (.slice (some ⟨eb, 0, none⟩) L.length ec) x ∧ r = .error x) → Q0 (.exit 0) a' wr) :
    c.wp Tryz.prog (Exit.then (fun a' w' => WI w0 B R V lb lc kb kc eb ec cl L K E fs a0 b v r k a' w' ∧ Wmu b a' w' < Wmu b a wr) Q0) a wr := by
  obtain ⟨i, ⟨u, rfl⟩, hrel⟩ := hI
  have hmu : b - i ≤ Wmu b { tmps := #[.pointer (some ⟨R, 0, none⟩), .int .i64 (a0 : Int), .int .i64 (b : Nat), .agg (letCells v), undef, undef, undef, .pointer (some ⟨V, 0, none⟩), .int .i64 (i : Nat), u 9, u 10, u 11, u 12, u 13, u 14, u 15, u 16, u 17, u 18, u 19, u 20, u 21, u 22, u 23, u 24, u 25, u 26, u 27, u 28, u 29, u 30, u 31, u 32, u 33, u 34, u 35, u 36, u 37, u 38, u 39, u 40, u 41, u 42, u 43, u 44, u 45, u 46, u 47, u 48, u 49, u 50, u 51, u 52, u 53, u 54, u 55, u 56, u 57, u 58, u 59, u 60, u 61, u 62, u 63, u 64, u 65, u 66, u 67, u 68, u 69, u 70, u 71, u 72, u 73, u 74, u 75, u 76, u 77, u 78, u 79, u 80, u 81, u 82, u 83, u 84, u 85, u 86, u 87, u 88, u 89, u 90, u 91, u 92, u 93, u 94, u 95, u 96, u 97, u 98, u 99, u 100, u 101, u 102, u 103, u 104, u 105, u 106, u 107, u 108, u 109, u 110, u 111, u 112, u 113, u 114, u 115, u 116, u 117, u 118, u 119, u 120, u 121, u 122, u 123, u 124, u 125, u 126, u 127, u 128, u 129, u 130, u 131, u 132, u 133, u 134, u 135, u 136, u 137, u 138, u 139, u 140, u 141, u 142, u 143, u 144, u 145, u 146, u 147, u 148, u 149, u 150, u 151, u 152, u 153, u 154, u 155, u 156, u 157, u 158, u 159, u 160, u 161, u 162, u 163, u 164, u 165, u 166, u 167, u 168, u 169, u 170, u 171, u 172, u 173, u 174, u 175, u 176, u 177, u 178, u 179, u 180, u 181, u 182, u 183, u 184, u 185, u 186, u 187, u 188, u 189, u 190, u 191, u 192, u 193, u 194, u 195, u 196, u 197, u 198, u 199, u 200, u 201, u 202, u 203, u 204, u 205, u 206, u 207, u 208, u 209, u 210, u 211, u 212, u 213, u 214, u 215, u 216, u 217, u 218, u 219, u 220, u 221, u 222, u 223, u 224, u 225, u 226], defers := [] } wr := Nat.le_refl _
  generalize Wmu b { tmps := #[.pointer (some ⟨R, 0, none⟩), .int .i64 (a0 : Int), .int .i64 (b : Nat), .agg (letCells v), undef, undef, undef, .pointer (some ⟨V, 0, none⟩), .int .i64 (i : Nat), u 9, u 10, u 11, u 12, u 13, u 14, u 15, u 16, u 17, u 18, u 19, u 20, u 21, u 22, u 23, u 24, u 25, u 26, u 27, u 28, u 29, u 30, u 31, u 32, u 33, u 34, u 35, u 36, u 37, u 38, u 39, u 40, u 41, u 42, u 43, u 44, u 45, u 46, u 47, u 48, u 49, u 50, u 51, u 52, u 53, u 54, u 55, u 56, u 57, u 58, u 59, u 60, u 61, u 62, u 63, u 64, u 65, u 66, u 67, u 68, u 69, u 70, u 71, u 72, u 73, u 74, u 75, u 76, u 77, u 78, u 79, u 80, u 81, u 82, u 83, u 84, u 85, u 86, u 87, u 88, u 89, u 90, u 91, u 92, u 93, u 94, u 95, u 96, u 97, u 98, u 99, u 100, u 101, u 102, u 103, u 104, u 105, u 106, u 107, u 108, u 109, u 110, u 111, u 112, u 113, u 114, u 115, u 116, u 117, u 118, u 119, u 120, u 121, u 122, u 123, u 124, u 125, u 126, u 127, u 128, u 129, u 130, u 131, u 132, u 133, u 134, u 135, u 136, u 137, u 138, u 139, u 140, u 141, u 142, u 143, u 144, u 145, u 146, u 147, u 148, u 149, u 150, u 151, u 152, u 153, u 154, u 155, u 156, u 157, u 158, u 159, u 160, u 161, u 162, u 163, u 164, u 165, u 166, u 167, u 168, u 169, u 170, u 171, u 172, u 173, u 174, u 175, u 176, u 177, u 178, u 179, u 180, u 181, u 182, u 183, u 184, u 185, u 186, u 187, u 188, u 189, u 190, u 191, u 192, u 193, u 194, u 195, u 196, u 197, u 198, u 199, u 200, u 201, u 202, u 203, u 204, u 205, u 206, u 207, u 208, u 209, u 210, u 211, u 212, u 213, u 214, u 215, u 216, u 217, u 218, u 219, u 220, u 221, u 222, u 223, u 224, u 225, u 226], defers := [] } wr = m at hmu ⊢
  rcases hrel.st with ⟨k', l', st', sv', hk', hl', hrun, hwa⟩ | ⟨x, hx, hes⟩
  · by_cases hib : i < b
    · have hbL := X.hb
      have hil : i < L.length := by omega
      obtain ⟨t, ht⟩ : ∃ t, L[i]? = some t := ⟨_, List.getElem?_eq_getElem hil⟩
      obtain ⟨ki, hki⟩ : ∃ ki, K[i]? = some ki := ⟨_, List.getElem?_eq_getElem (by rw [hrel.sh.lenK]; exact hil)⟩
      have hl0 := hl'
      cases hl' with
      | nil => omega
      | skip h1 h2 h3 =>
        obtain rfl := Option.some.inj (hki.symm.trans h1)
        exact walk_skip X Q0 c hc u wr m i hmu hrel hib hk' hl0 hrun hwa ht hki h2 h3
      | defn h1 h2 h3 h4 h5 =>
        obtain rfl := Option.some.inj (hki.symm.trans h1)
        exact walk_defn X Q0 c hc u wr m i hmu hrel hib hk' hl0 hrun hwa ht hki rfl h2 h3 h4 h5
      | @step _ _ l2 kx n h1 h2 h3 h4 h5 h6 =>
        obtain rfl := Option.some.inj (hki.symm.trans h1)
        obtain ⟨_, nL, nw, nK⟩ := X.fin.rel.node n h4 h3
        rw [h5] at nL nK
        have ntx : t = (Drl.nd fs.ar n).text := Option.some.inj (ht.symm.trans nL)
        have nkd : ki = Drl.rkind t := by rw [ntx]; exact Option.some.inj (hki.symm.trans nK)
        rw [← ntx] at nw
        cases k' with
        | zero => simp [Drl.run] at hrun
        | succ k2 =>
        have hrun' := hrun
        rw [Drl.run_cons] at hrun'
        have hk8 : ki ≤ 8 := by
          rw [nkd]; unfold Drl.rkind
          repeat' split
          all_goals omega
        have hstep : ∀ d, Drl.drOf (Drl.nd fs.ar n) v = d → 7 ≤ ki → Drl.one fs.ar k2 n v st' = some (Drl.stepD d st') := by
          intro d hd h7
          have hne := (Drl.rkind_inv (t := t)).2.2.2.2.2.1 (by omega)
          unfold Drl.one
          rw [nw, if_neg hne.2.1, if_neg hne.2.2.1, if_neg hne.2.2.2, Drl.step_eq, hd]
        rcases (show ki = 6 ∨ ki = 7 ∨ ki = 8 by omega) with e6 | e7 | e8
        · have hw6 := (Drl.rkind_inv (t := t)).2.2.2.1 (by omega)
          have hone : Drl.one fs.ar k2 n v st' = (Drl.nd fs.ar n).use.bind fun d => Drl.run fs.ar k2 (.times n (Drl.nd fs.ar d).body Drl.noNums 1 1) st' := by
            unfold Drl.one
            rw [nw, if_neg (by rw [hw6]; decide), if_neg (by rw [hw6]; decide), if_pos hw6]
          rw [hone] at hrun'
          cases hu : (Drl.nd fs.ar n).use with
          | none => rw [hu] at hrun'; simp at hrun'
          | some d =>
          rw [hu, Option.bind_some] at hrun'
          cases hq : Drl.run fs.ar k2 (.times n (Drl.nd fs.ar d).body Drl.noNums 1 1) st' with
          | none => rw [hq] at hrun'; simp at hrun'
          | some q =>
          rw [hq] at hrun'
          obtain ⟨_, _, hdn, hdm⟩ := X.fin.rel.uses n h3 d hu
          obtain ⟨g1, g2, g3, g4, g5, g6, e, g7, g8, g9, g10⟩ := X.fin.rel.names _ hdm
          dsimp only at g1 g2 g3 g4 g5 g6 g7 g8 g9 g10
          have hat : (Drl.nd fs.ar d).at_ < i := by rw [← h5]; exact X.fin.rel.mono d n g1 hdn h3
          have hlet : (Drl.nd fs.ar n).letter = 0 := by
            rcases X.fin.rel.letter n h3 with ⟨_, k4, _⟩ | ⟨hl, _⟩
            · rw [← ntx, ← nkd] at k4; omega
            · exact hl
          have hws2 := (X.fin.rel.klen n h4 h3).1 (.inr (by rw [← ntx, ← nkd]; exact e6))
          rw [nw] at hws2 g5
          have hru := Drl.run_use hq hlet
          refine walk_use X Q0 c hc u wr m i hmu hrel hib hk' hl0 hrun hwa ht hki e6 (n := n) (d := d) (e := e) (q := q) (l2 := l2) (k2 := k2) (by omega) h6 ?_ (by omega) ?_ h5 g7 g9 hat g10 (Fin.hdef X.fin.rel) ?_
          · cases q <;> exact hrun'
          · intro rr hrr
            rw [nw] at g6
            have hj : ∀ d', Drl.look fs.names (Drl.wd (Drl.words t) 1) = some d' → (Drl.nd fs.ar d').at_ < i := by
              intro d' hd'
              rw [hd'] at g6
              obtain rfl := Option.some.inj g6
              exact hat
            rcases X.fin.rel.thereIs hj hrr with ⟨hn, _⟩ | ⟨d', hd', he'⟩
            · rw [hn] at g6; cases g6
            · rw [hd'] at g6
              obtain rfl := Option.some.inj g6
              exact he'
          · cases ht1 : Drl.turn (Drl.nd fs.ar n).at_ st' with
            | error y => rw [ht1] at hru; exact hru
            | ok st1 =>
              rw [ht1] at hru
              dsimp only at hru ⊢
              cases ht2 : Drl.turn (Drl.nd fs.ar n).at_ st1 with
              | error y => rw [ht2] at hru; exact hru
              | ok st2 =>
                rw [ht2] at hru
                obtain ⟨k3, hk3, hr3⟩ := hru
                exact ⟨k3, by omega, hr3⟩
        · have hx7 := (Drl.rkind_inv (t := t)).2.2.2.2.1 (by omega)
          have hd : Drl.drOf (Drl.nd fs.ar n) v = ⟨i, (Drl.filled v t).drop 7, true⟩ := by
            unfold Drl.drOf
            rw [nw, if_pos hx7, h5, ← ntx, (Drl.want_rest v t hx7).1]
          rw [hstep _ hd (by omega)] at hrun'
          refine walk_want X Q0 c hc u wr m i hmu hrel hib hk' hl0 hrun hwa ht hki e7 (x := ⟨i, (Drl.filled v t).drop 7, true⟩) (k2 := k2) (by omega) rfl h6 ?_ rfl rfl
          revert hrun'
          cases Drl.stepD ⟨i, (Drl.filled v t).drop 7, true⟩ st' <;> exact id
        · have hx8 := (Drl.rkind_inv (t := t)).2.2.2.2.2.2 (by omega)
          have hd : Drl.drOf (Drl.nd fs.ar n) v = ⟨i, Drl.filled v t, false⟩ := by
            unfold Drl.drOf
            rw [nw, if_neg hx8, h5, ← ntx]
          rw [hstep _ hd (by omega)] at hrun'
          refine walk_say X Q0 c hc u wr m i hmu hrel hib hk' hl0 hrun hwa ht hki e8 (x := ⟨i, Drl.filled v t, false⟩) (k2 := k2) (by omega) rfl h6 ?_ rfl rfl
          revert hrun'
          cases Drl.stepD ⟨i, Drl.filled v t, false⟩ st' <;> exact id
      | @blk _ _ l2 kx n e h1 h2 h3 h4 h5 h6 h7 h8 h9 h10 =>
        obtain rfl := Option.some.inj (hki.symm.trans h1)
        obtain ⟨_, nL, nw, nK⟩ := X.fin.rel.node n h7 h6
        rw [h8] at nL nK
        have ntx : t = (Drl.nd fs.ar n).text := Option.some.inj (ht.symm.trans nL)
        have nkd : ki = Drl.rkind t := by rw [ntx]; exact Option.some.inj (hki.symm.trans nK)
        rw [← ntx] at nw
        have hwlen : (Drl.words (Drl.filled v t)).length = (Drl.words t).length := by rw [Drl.words_filled v X.lo, List.length_map]
        cases k' with
        | zero => simp [Drl.run] at hrun
        | succ k2 =>
        have hrun' := hrun
        rw [Drl.run_cons] at hrun'
        rcases h2 with e3 | e4
        · have hw3 := (Drl.rkind_inv (t := t)).2.1 (by omega)
          have hone : Drl.one fs.ar k2 n v st' = (Drl.cnt v (Drl.wd (Drl.words t) 1)).bind fun c => Drl.run fs.ar k2 (.times n (Drl.nd fs.ar n).body v 1 c) st' := by
            unfold Drl.one
            rw [nw, if_pos hw3]
          rw [hone] at hrun'
          cases hc1 : Drl.cnt v (Drl.wd (Drl.words t) 1) with
          | none => rw [hc1] at hrun'; simp at hrun'
          | some cN =>
          rw [hc1, Option.bind_some] at hrun'
          cases hq : Drl.run fs.ar k2 (.times n (Drl.nd fs.ar n).body v 1 cN) st' with
          | none => rw [hq] at hrun'; simp at hrun'
          | some q =>
          rw [hq] at hrun'
          have hcr := Drl.cnt_range hc1
          have hlet : (Drl.nd fs.ar n).letter = 0 := by
            rcases X.fin.rel.letter n h6 with ⟨_, k4, _⟩ | ⟨hl, _⟩
            · rw [← ntx, ← nkd] at k4; omega
            · exact hl
          have hws2 := (X.fin.rel.klen n h7 h6).1 (.inl (by rw [← ntx, ← nkd]; exact e3))
          rw [nw] at hws2
          have hru := Drl.run_times hq
          refine walk_repeat X Q0 c hc u wr m i hmu hrel hib hk' hl0 hrun hwa ht hki e3 (n := n) (e := e) (q := q) (l2 := l2) (k2 := k2) (by omega) h3 h4 h5 h10 h9 h8 ?_ (cN := cN) ?_ hcr.1 hcr.2 (by omega) hlet ?_
          · cases q <;> exact hrun'
          · rw [Drl.wd_filled v X.lo]; exact Drl.cnt_rnum hc1
          · cases ht1 : Drl.turn (Drl.nd fs.ar n).at_ st' with
            | error y => rw [ht1] at hru; exact hru
            | ok st1 =>
              rw [ht1] at hru
              obtain ⟨k3, hk3, hr3⟩ := hru
              exact ⟨k3, by omega, hr3⟩
        · have hw4 := (Drl.rkind_inv (t := t)).2.2.1 (by omega)
          have hone : Drl.one fs.ar k2 n v st' = (Drl.cnt v (Drl.wd (Drl.words t) 2)).bind fun a => (Drl.cnt v (Drl.wd (Drl.words t) 3)).bind fun b => Drl.run fs.ar k2 (.times n (Drl.nd fs.ar n).body v a b) st' := by
            unfold Drl.one
            rw [nw, if_neg (by rw [hw4]; decide), if_pos hw4]
          rw [hone] at hrun'
          cases hc2 : Drl.cnt v (Drl.wd (Drl.words t) 2) with
          | none => rw [hc2] at hrun'; simp at hrun'
          | some aN =>
          rw [hc2, Option.bind_some] at hrun'
          cases hc3 : Drl.cnt v (Drl.wd (Drl.words t) 3) with
          | none => rw [hc3] at hrun'; simp at hrun'
          | some bN =>
          rw [hc3, Option.bind_some] at hrun'
          cases hq : Drl.run fs.ar k2 (.times n (Drl.nd fs.ar n).body v aN bN) st' with
          | none => rw [hq] at hrun'; simp at hrun'
          | some q =>
          rw [hq] at hrun'
          have hcr2 := Drl.cnt_range hc2
          have hcr3 := Drl.cnt_range hc3
          have hlet : Drl.letterB (Drl.wd (Drl.words t) 1) = true ∧ (Drl.nd fs.ar n).letter = (Drl.wd (Drl.words t) 1).headD 0 := by
            rcases X.fin.rel.letter n h6 with ⟨_, _, lb, _, le⟩ | ⟨_, k4⟩
            · rw [nw] at lb le; exact ⟨lb, le⟩
            · exact absurd (by rw [← ntx, ← nkd]; exact e4) (k4 h7)
          have hws2 := (X.fin.rel.klen n h7 h6).2 (by rw [← ntx, ← nkd]; exact e4)
          rw [nw] at hws2
          have hru := Drl.run_times hq
          refine walk_for X Q0 c hc u wr m i hmu hrel hib hk' hl0 hrun hwa ht hki e4 (n := n) (e := e) (q := q) (l2 := l2) (k2 := k2) (by omega) h3 h4 h5 h10 h9 h8 ?_ (aN := aN) (bN := bN) ?_ ?_ hcr2.1 hcr2.2 hcr3.1 hcr3.2 (by omega) (by omega) hlet.1 hlet.2 ?_
          · cases q <;> exact hrun'
          · rw [Drl.wd_filled v X.lo]; exact Drl.cnt_rnum hc2
          · rw [Drl.wd_filled v X.lo]; exact Drl.cnt_rnum hc3
          · cases ht1 : Drl.turn (Drl.nd fs.ar n).at_ st' with
            | error y => rw [ht1] at hru; exact hru
            | ok st1 =>
              rw [ht1] at hru
              obtain ⟨k3, hk3, hr3⟩ := hru
              exact ⟨k3, by omega, hr3⟩
    · exact walk_exit Q0 c hc u wr m i (.inl hib) (fun a' hd => hexit i a' hd hrel (.inl hib))
  · exact walk_exit Q0 c hc u wr m i (.inr ⟨_, hes.cell7, by have := hes.1; omega⟩) (fun a' hd => hexit i a' hd hrel (.inr ⟨x, hes, hx⟩))

theorem rwalk_ok (k : Nat) (ih : ∀ k', k' < k → WalkOk k') : WalkOk k := by
  intro w B R lb lc kb kc eb ec cl sv st L K E fs a b l v r hSh hW hF hl hb hlo hv hr
  have HF := Lib.hid hF
  have HL := Lib.hid hl
  have HLO := Lib.hid hlo
  have HV := Lib.hid hv
  have HR := Lib.hid hr
  have HW := Lib.hid hW
  have HSH := Lib.hid hSh
  have HIH := Lib.hid ih
  have hRlt := hW.lt
  have hn := hF.hn
  have hB := hW.base
  have hle := hl.le
  clear hF hl hlo hv hr hW hSh ih
  go_enter Tryz.func25, Tryz.ntmps25
  go_wp2_with fail
  have hb0 : Below w.heap.size w (w.alloc (.cells (letCells v) 72)) := (Below.refl _ w).alloc (Nat.le_refl _) _
  have HB0 := Lib.hid hb0
  have HW0 := Lib.hid (HW.out.next hb0)
  clear hb0
  refine wp_loop (WI (w.alloc (.cells (letCells v) 72)) B R w.heap.size lb lc kb kc eb ec cl L K E fs a b v r k) (Wmu b) ?_ ?_
  · exact ⟨a, WFr.intro, heap_new _ _, Left.refl _ _ _, HSH.out.next HB0.out, by omega, ⟨_, HW0.out.at_⟩, .inl ⟨k, l, st, sv, Nat.le_refl _, HL.out, HR.out, HW0.out⟩⟩
  · intro a1 wr hI
    refine walk_round ⟨HF.out, HLO.out, HV.out, hb, HIH.out, by rw [size_alloc]; omega, by omega⟩ _ _ rfl a1 wr hI ?_
    intro i a' hd hrel hx
    have hLF : Left B R w wr := ((Left.refl B R w).next (by omega) HB0.out).trans hrel.left
    have hfin : RPost w B R (.slice (some ⟨lb, 0, none⟩) L.length lc) (.slice (some ⟨kb, 0, none⟩) L.length kc) (.slice (some ⟨eb, 0, none⟩) L.length ec) cl r wr := by
      refine ⟨hLF, ?_⟩
      rcases hrel.st with ⟨k', l', st', sv', hk', hl', hrun, hwa⟩ | ⟨x, hx, hes⟩
      · have hib : ¬ i < b := by
          rcases hx with h | ⟨x, hes, _⟩
          · exact h
          · have h1 := hwa.cell7
            rw [hes.cell7] at h1
            injection h1 with h1
            injection h1 with _ h1
            exact absurd h1 (by have := hes.1; omega)
        have hl0 : l' = [] := by
          have := hl'.le
          cases hl' with
          | nil => rfl
          | skip _ _ h => have := h.le; omega
          | defn _ _ _ _ h => have := h.le; omega
          | step _ _ _ _ _ h => have := h.le; omega
          | blk _ _ _ _ _ _ _ _ _ h => have := h.le; omega
        subst hl0
        cases k' with
        | zero => simp [Drl.run] at hrun
        | succ k2 =>
          simp only [Drl.run] at hrun
          obtain rfl := Option.some.inj hrun
          exact ⟨_, hwa⟩
      · rw [hx]; exact hes
    clear hrel hx hI
    (try simp only [Exit.inBlock, Exit.then])
    rw [if_pos trivial]
    exact bodyPost_end (results_none rfl _ _ _) hd ⟨hfin, rfl⟩

theorem rwalk_all : ∀ k, WalkOk k := by
  intro k
  induction k using Nat.strongRecOn with
  | _ k ih => exact rwalk_ok k ih
end Go.Proofs.YtfbmlnkgjgnnhaaGreatDoor
