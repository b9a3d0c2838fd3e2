import Derived.Test.YtfbmlnkgjgnnhaaGreatDoorJA17
import Derived.Deep.MidRow
set_option linter.unusedSimpArgs false
set_option linter.unusedVariables false

section
namespace Go.Proofs.YtfbmlnkgjgnnhaaGreatDoor
open Go.RowKit
set_option linter.unusedVariables false

/-- a whole block is written -/
theorem setCells_block (b : Nat) (e : TypeId) : ∀ (vs pre : List Value) (old : List Value) (w : World), w.heap[b]? = some (.cells (pre ++ old).toArray e (0, 0)) → old.length = vs.length → (w.setCells b pre.length vs).heap[b]? = some (.cells (pre ++ vs).toArray e (0, 0))
  | [], pre, old, w, h, hl => by
    have : old = [] := List.eq_nil_of_length_eq_zero hl
    subst this
    exact h
  | v :: vs, pre, [], w, h, hl => by simp at hl
  | v :: vs, pre, o :: old, w, h, hl => by
    have h1 : (w.setCell ⟨b, pre.length, none⟩ v).heap[b]? = some (.cells ((pre ++ [v]) ++ old).toArray e (0, 0)) := by
      rw [heap_set h]
      congr 2
      simp
    have := setCells_block b e vs (pre ++ [v]) old (w.setCell ⟨b, pre.length, none⟩ v) h1 (by simpa using hl)
    simpa [World.setCells] using this
theorem setCells_far (b : Nat) : ∀ (vs : List Value) (o : Nat) (w : World) {B : Nat} {a : World}, Below B a w → B ≤ b → Below B a (w.setCells b o vs)
  | [], _, _, _, _, h, _ => h
  | v :: vs, o, w, _, _, h, hb => setCells_far b vs (o + 1) _ (h.setCell hb v) hb

theorem nums_there {w : World} {V : Nat} {v : Drl.Nums} (h : NumsAt w V v) : w.there V 0 128 := fun j hj => by
  rw [Nat.zero_add]
  exact ⟨by rw [h.cell j hj]; rfl, h.frozen j⟩
theorem nums_range {w : World} {V : Nat} {v : Drl.Nums} (h : NumsAt w V v) : w.rangeAt V 0 (numsCells v).toList := fun j u hj => by
  rw [Nat.zero_add]
  exact cell_of h (by simpa using hj)
theorem nums_one (v : Drl.Nums) : (numsCells v).all (·.oneCell') = true := by
  rw [Array.all_eq_true_iff_forall_mem]
  intro u hu
  obtain ⟨i, hi, rfl⟩ := Array.mem_iff_getElem.1 hu
  simp [numsCells, Value.oneCell']
/-- the numbers are copied -/
theorem nums_copy {W : World} {V : Nat} {v0 : Drl.Nums} (v : Drl.Nums) (h : NumsAt W V v0) : NumsAt (W.setCells V 0 (numsCells v).toList) V v := by
  unfold NumsAt at h ⊢
  have := setCells_block V 101 (numsCells v).toList [] (numsCells v0).toList W (by simpa using h) (by simp [numsCells_size])
  simpa using this
theorem numbers_info : (Tryz.prog.info? 101).map (·.size) = some 128 := by kernel_rfl
theorem numbers_under : Tryz.prog.underlying 101 = some (.array 128 3) := by kernel_rfl

theorem load_row {w : World} {ops : Array Oper} {rest : List Oper} {op : Oper} {a : Act} {Q : Exit → Act → World → Prop} (hgd : op.guard = none) (x : Operand) (ho : op.op = .load 101 x)
    (h : ∃ V v, a.eval x = .pointer (some ⟨V, 0, none⟩) ∧ NumsAt w V v ∧ wpList Tryz.prog ops Q rest (a.put op.dst (.agg (numsCells v))) w) : wpList Tryz.prog ops Q (op :: rest) a w := by
  obtain ⟨V, v, h1, h2, h3⟩ := h
  exact wpList_load_mid hgd 101 x ho V 0 h1 (numsCells v).toList (.array 128 3) (nums_range h2) numbers_under rfl (by rw [Array.length_toList, numsCells_size]; exact numbers_info) (by rw [Array.toArray_toList]; exact h3)
theorem store_row {w : World} {ops : Array Oper} {rest : List Oper} {op : Oper} {a : Act} {Q : Exit → Act → World → Prop} (hgd : op.guard = none) (x y : Operand) (ho : op.op = .store 101 x y)
    (h : ∃ b v0 v, a.eval x = .pointer (some ⟨b, 0, none⟩) ∧ a.eval y = .agg (numsCells v) ∧ NumsAt w b v0 ∧ wpList Tryz.prog ops Q rest (a.put op.dst undef) (w.setCells b 0 (numsCells v).toList)) : wpList Tryz.prog ops Q (op :: rest) a w := by
  obtain ⟨b, v0, v, h1, h2, h3, h4⟩ := h
  exact wpList_store_mid hgd 101 x y ho b 0 (numsCells v) h1 h2 (by rw [numsCells_size]; exact nums_there h3) (by rw [numsCells_size]; exact numbers_info) (nums_one v) h4

theorem alloc_row {w : World} {ops : Array Oper} {rest : List Oper} {op : Oper} {a : Act} {Q : Exit → Act → World → Prop} (hgd : op.guard = none) (ho : op.op = .alloc 101)
    (h : wpList Tryz.prog ops Q rest (a.put op.dst (.pointer (some ⟨w.heap.size, 0, none⟩))) (w.alloc (.cells (numsCells fun _ => 0) 101))) : wpList Tryz.prog ops Q (op :: rest) a w :=
  wpList_plain hgd fun K hK => by
    rw [← zeros_nums] at h
    unfold Oper.wp execOp
    simp only [ho, Instr.alloc, Sem.run_bind, Sem.run_pure, Result.andThen_ok, Tryz.zeroValue101, newVar, newRow, newObj, Value.cells]
    exact hK _ _ h

/-! ### what stays -/
theorem NumsAt.left {B R : Nat} {w w' : World} {V : Nat} {v : Drl.Nums} (h : NumsAt w V v) (hL : Left B R w w') {c : Array Value} (hR : w.heap[R]? = some (.cells c 55 (0, 0))) : NumsAt w' V v :=
  hL.keep.cells h (ne_of_type h hR (by decide)) (by decide)
theorem Nodes.left {B R : Nat} {w w' : World} {Bt : Nat} {ad : Nat → Nat} {wv bv : Nat → Value} {ar : List Drl.Nd} (h : Nodes w Bt ad wv bv ar) (hL : Left B R w w') {c : Array Value} (hR : w.heap[R]? = some (.cells c 55 (0, 0))) : Nodes w' Bt ad wv bv ar :=
  h.keep hL.keep (fun b c' e fz hb he => by
    rintro rfl
    rw [hb] at hR
    cases hR
    rcases he with he | he | he <;> exact absurd he (by decide)) (by decide) (by decide) (by decide)

/-- the tree as it is gone through: its lists hold nodes that may stand there -/
structure Good (ar : List Drl.Nd) : Prop where
  pos : 0 < ar.length
  body : ∀ i, i < ar.length → ∀ n ∈ (Drl.nd ar i).body, n < ar.length ∧ 1 ≤ (Drl.nd ar n).ws.length ∧ (∀ t ∈ (Drl.nd ar n).ws, t.length ≤ 65536) ∧ (Drl.wd (Drl.nd ar n).ws 0 = Drl.wRepeat → (Drl.nd ar n).ws.length = 2) ∧ (Drl.wd (Drl.nd ar n).ws 0 = Drl.wFor → (Drl.nd ar n).ws.length = 4) ∧
    (Drl.wd (Drl.nd ar n).ws 0 = Drl.wUse → ∃ d, (Drl.nd ar n).use = some d) ∧ (Drl.wd (Drl.nd ar n).ws 0 = Drl.wExpect → 6 ≤ (Drl.nd ar n).text.length) ∧ (Drl.nd ar n).text.length ≤ 65536
  uselt : ∀ i, i < ar.length → ∀ d, (Drl.nd ar i).use = some d → d < ar.length
  blen : ∀ i, i < ar.length → (Drl.nd ar i).body.length ≤ 65536
  letter : ∀ i, i < ar.length → (Drl.nd ar i).letter.toNat < 128

/-- where going through stands -/
structure Stand (w : World) (B R Bt : Nat) (sv : Value) (st : Drl.PSt) (ad : Nat → Nat) (wv bv : Nat → Value) (ar : List Drl.Nd) : Prop where
  env : Env w
  hB : 10 ≤ B
  run : RunAt w B R sv st
  nodes : Nodes w Bt ad wv bv ar

theorem Stand.left {w w' : World} {B R Bt : Nat} {sv sv' : Value} {st st' : Drl.PSt} {ad : Nat → Nat} {wv bv : Nat → Value} {ar : List Drl.Nd} (h : Stand w B R Bt sv st ad wv bv ar) (hL : Left B R w w') (hr : RunAt w' B R sv' st') : Stand w' B R Bt sv' st' ad wv bv ar :=
  ⟨h.env.below hL.below h.hB, h.hB, hr, h.nodes.left hL h.run.at_⟩
theorem Stand.next {w w' : World} {B R Bt : Nat} {sv : Value} {st : Drl.PSt} {ad : Nat → Nat} {wv bv : Nat → Value} {ar : List Drl.Nd} (h : Stand w B R Bt sv st ad wv bv ar) (hb : Below w.heap.size w w') : Stand w' B R Bt sv st ad wv bv ar := by
  have hk : Keep (fun _ => False) (fun _ => False) w w' := .of_next hb
  exact ⟨h.env.next hb, h.hB, h.run.next hb, h.nodes.keep hk (fun _ _ _ _ _ _ => id) id id id⟩

def PlayOk (K : Nat) : Prop := ∀ (w : World) (B R Bt V i : Nat) (sv : Value) (st : Drl.PSt) (ad : Nat → Nat) (wv bv : Nat → Value) (ar : List Drl.Nd) (v : Drl.Nums) (r : Except Drl.Err Drl.PSt),
  Stand w B R Bt sv st ad wv bv ar → Good ar → NumsAt w V v → (∀ c, v c ≤ 999999) → i < ar.length → Drl.run ar K (.seq (Drl.nd ar i).body v) st = some r →
    Calls Tryz.prog 22 #[.pointer (some ⟨R, 0, none⟩), bv i, .pointer (some ⟨V, 0, none⟩)] w (PlayPost w B R r)
def TimesOk (K : Nat) : Prop := ∀ (w : World) (B R Bt V n d : Nat) (sv : Value) (st : Drl.PSt) (ad : Nat → Nat) (wv bv : Nat → Value) (ar : List Drl.Nd) (v : Drl.Nums) (a b : Int) (r : Except Drl.Err Drl.PSt),
  Stand w B R Bt sv st ad wv bv ar → Good ar → NumsAt w V v → (∀ c, v c ≤ 999999) → n < ar.length → d < ar.length → 0 ≤ a → a ≤ 999999 → b ≤ 999999 → Drl.run ar K (.times n (Drl.nd ar d).body v a b) st = some r →
    Calls Tryz.prog 38 #[.pointer (some ⟨R, 0, none⟩), .pointer (some ⟨ad n, 0, none⟩), bv d, .pointer (some ⟨V, 0, none⟩), .int .i64 a, .int .i64 b] w (PlayPost w B R r)
end Go.Proofs.YtfbmlnkgjgnnhaaGreatDoor
end

section
namespace Go.Proofs.YtfbmlnkgjgnnhaaGreatDoor
open Go.RowKit

set_option maxRecDepth 100000
set_option maxHeartbeats 2000000

theorem times_ok (K : Nat) (hP : ∀ k, k < K → PlayOk k) : TimesOk K := by
  intro w B R Bt V n d sv st ad wv bv ar v a b r hS hG hN hv hn hd ha0 ha hb hr
  cases K with
  | zero => simp [Drl.run] at hr
  | succ k =>
  have hHN := hS.nodes.node n hn
  have hc0 : w.cell? ⟨ad n, 0, none⟩ = some (.int .i64 (Drl.nd ar n).at_) := cell_of hHN rfl
  have HS := Lib.hid hS
  have HG := Lib.hid hG
  have HNN := Lib.hid hN
  have HV := Lib.hid hv
  have HP := Lib.hid hP
  have HC := Lib.hid hc0
  have HR := Lib.hid hr
  clear hS hG hN hv hP hHN hr hc0
  go_enter Tryz.func38, Tryz.ntmps38
  go_wp2_with fail
  refine (turn_ok w B R (ad n) sv st HS.out.run _ HC.out).mono ?_
  rintro e w1 ⟨hL1, hm⟩
  have hr := HR.out
  simp only [Drl.run] at hr
  cases htn : Drl.turn (Drl.nd ar n).at_ st with
  | error x =>
    rw [htn] at hm hr
    obtain ⟨v', rfl, b', rfl, hb'⟩ := hm
    obtain rfl : Except.error x = r := Option.some.inj hr
    clear hr
    have HL := Lib.hid hL1
    have HB := Lib.hid hb'
    clear hL1 hb'
    go_wp2_with fail
    go_ret
    exact ⟨HL.out, _, rfl, _, rfl, HB.out⟩
  | ok st1 =>
    rw [htn] at hm hr
    obtain ⟨rfl, sv1, hr1⟩ := hm
    have HL := Lib.hid hL1
    have HR1 := Lib.hid hr1
    have HRU := Lib.hid hr
    clear hL1 hr1 hr
    go_wp2_with fail
    go_loopw [14] (fun i wr => ∃ (a' : Int) (k' : Nat) (st' : Drl.PSt) (sv' : Value), i = .int .i64 a' ∧ 0 ≤ a' ∧ a' ≤ 1000000 ∧ k' < k + 1 ∧ Drl.run ar k' (.loop n (Drl.nd ar d).body v a' b) st' = some r ∧ Left B R w wr ∧ RunAt wr B R sv' st') (fun i _ => (b + 1 - intOf i).toNat)
    case atStart => exact ⟨a, k, st1, sv1, rfl, ha0, by omega, by omega, HRU.out, HL.out, HR1.out⟩
    case round =>
      obtain ⟨a', k', st', sv', rfl, h0, hmx, hk', hru, hL, hR⟩ := hrel
      by_cases hab : a' ≤ b
      · cases k' with
        | zero => simp [Drl.run] at hru
        | succ k2 =>
        simp only [Drl.run, if_pos hab] at hru
        have hS' := HS.out.left hL hR
        have hcr : wr.cell? ⟨ad n, 0, none⟩ = some (.int .i64 (Drl.nd ar n).at_) := cell_of (hS'.nodes.node n hn) rfl
        have HLw := Lib.hid hL
        have HRw := Lib.hid hR
        have HRU2 := Lib.hid hru
        have HSw := Lib.hid hS'
        clear hL hR hru hS'
        go_wp2_with fail
        refine (turn_ok wr B R (ad n) sv' st' HRw.out _ hcr).mono ?_
        rintro e w2 ⟨hL2, hm2⟩
        have hr2 := HRU2.out
        cases htn2 : Drl.turn (Drl.nd ar n).at_ st' with
        | error x =>
          rw [htn2] at hm2 hr2
          obtain ⟨v', rfl, b', rfl, hb'⟩ := hm2
          obtain rfl : Except.error x = r := Option.some.inj hr2
          clear hr2
          have HLE := Lib.hid (HLw.out.trans hL2)
          have HB := Lib.hid hb'
          clear hL2 hb'
          go_wp2_with fail
          go_ret
          exact ⟨HLE.out, _, rfl, _, rfl, HB.out⟩
        | ok st2 =>
          rw [htn2] at hm2 hr2
          obtain ⟨rfl, sv2, hrn2⟩ := hm2
          have hS2 := HSw.out.left hL2 hrn2
          have hN2 : NumsAt w2 V v := (HNN.out.left HLw.out HS.out.run.at_).left hL2 HRw.out.at_
          have HL2 := Lib.hid (HLw.out.trans hL2)
          have HS2 := Lib.hid hS2
          have HN2 := Lib.hid hN2
          have HR2 := Lib.hid hr2
          clear hL2 hrn2 hS2 hN2 hr2 hcr
          have HZ := Lib.hid (show NumsAt (w2.alloc (.cells (numsCells fun _ => 0) 101)) w2.heap.size (fun _ => 0) from heap_new _ _)
          have hlet := HG.out.letter n hn
          by_cases hl0 : (Drl.nd ar n).letter.toNat = 0
          · have el : (((Drl.nd ar n).letter.toNat : Int) != 0) = false := by rw [hl0]; rfl
            have HL0 := Lib.hid hl0
            clear hl0
            go_wp2_with (first
              | (with_reducible refine load_row rfl (.tmp 37) rfl ?_; refine ⟨V, v, rfl, HN2.out, ?_⟩)
              | with_reducible refine alloc_row rfl rfl ?_
              | (with_reducible refine store_row rfl (.tmp 16) (.tmp 38) rfl ?_; refine ⟨_, _, v, rfl, rfl, HZ.out, ?_⟩; have hn3 := nums_copy v HZ.out; have hb3 := setCells_far w2.heap.size (numsCells v).toList 0 _ ((Below.refl w2.heap.size w2).alloc (Nat.le_refl _) (.cells (numsCells fun _ => 0) 101)) (Nat.le_refl _); generalize World.setCells (w2.alloc (.cells (numsCells fun _ => 0) 101)) w2.heap.size 0 (numsCells v).toList = W3 at hn3 hb3 ⊢; have hc3 : W3.cell? ⟨ad n, 3, none⟩ = some (.int .u8 (Drl.nd ar n).letter.toNat) := cell_of ((HS2.out.next hb3).nodes.node n hn) rfl))
            have hb4 : Below w2.heap.size w2 W3 := hb3
            have hS4 := HS2.out.next hb4
            have hN4 : NumsAt W3 w2.heap.size (v) := hn3
            have hv4 : ∀ c, (v) c ≤ 999999 := HV.out
            have hr := HR2.out
            rw [if_neg (by simpa using HL0.out)] at hr
            cases hq : Drl.run ar k2 (.seq (Drl.nd ar d).body (v)) st2 with
            | none => rw [hq] at hr; cases hr
            | some q =>
              rw [hq] at hr
              refine (HP.out k2 (by omega) W3 B R Bt w2.heap.size d sv2 st2 ad wv bv ar (v) q hS4 HG.out hN4 hv4 hd hq).mono ?_
              rintro e w5 ⟨hL5, hm5⟩
              have hBw2 : B ≤ w2.heap.size := by have := lt_of HS2.out.run.at_; have := HS2.out.run.base; omega
              have HL5 := Lib.hid ((HL2.out.trans ((Left.refl B R w2).next hBw2 hb4)).trans hL5)
              cases q with
              | error x =>
                obtain ⟨v', rfl, b', rfl, hb'⟩ := hm5
                obtain rfl : Except.error x = r := Option.some.inj hr
                have HB := Lib.hid hb'
                clear hL5 hb' hr hq hS4 hN4 hv4 hb4
                go_wp2_with fail
                go_ret
                exact ⟨HL5.out, _, rfl, _, rfl, HB.out⟩
              | ok st3 =>
                obtain ⟨rfl, sv3, hR3⟩ := hm5
                have HR3 := Lib.hid hR3
                have HRR := Lib.hid hr
                clear hL5 hR3 hr hq hS4 hN4 hv4 hb4
                have hw1 : IntKind.i64.wrap (a' + 1) = a' + 1 := IntWalk.i64_in _ (by omega)
                go_wp2_with fail
                go_round
                case rel => exact ⟨a' + 1, k2, st3, sv3, rfl, by omega, by omega, by omega, HRR.out, HL5.out, HR3.out⟩
                case measure => simp only [intOf]; omega
          · have el : (((Drl.nd ar n).letter.toNat : Int) != 0) = true := by simp [bne]; omega
            have el2 : ((Drl.nd ar n).letter.toNat : Int) < 128 := by omega
            have HL0 := Lib.hid hl0
            clear hl0
            go_wp2_with (first
              | (with_reducible refine load_row rfl (.tmp 37) rfl ?_; refine ⟨V, v, rfl, HN2.out, ?_⟩)
              | with_reducible refine alloc_row rfl rfl ?_
              | (with_reducible refine store_row rfl (.tmp 16) (.tmp 38) rfl ?_; refine ⟨_, _, v, rfl, rfl, HZ.out, ?_⟩; have hn3 := nums_copy v HZ.out; have hb3 := setCells_far w2.heap.size (numsCells v).toList 0 _ ((Below.refl w2.heap.size w2).alloc (Nat.le_refl _) (.cells (numsCells fun _ => 0) 101)) (Nat.le_refl _); generalize World.setCells (w2.alloc (.cells (numsCells fun _ => 0) 101)) w2.heap.size 0 (numsCells v).toList = W3 at hn3 hb3 ⊢; have hc3 : W3.cell? ⟨ad n, 3, none⟩ = some (.int .u8 (Drl.nd ar n).letter.toNat) := cell_of ((HS2.out.next hb3).nodes.node n hn) rfl; have hc4 := hn3.cell _ hlet; have hz4 := hn3.frozen (Drl.nd ar n).letter.toNat))
            have hb4 : Below w2.heap.size w2 (W3.setCell ⟨w2.heap.size, (Drl.nd ar n).letter.toNat, none⟩ (.int .i64 a')) := hb3.setCell (Nat.le_refl _) _
            have hS4 := HS2.out.next hb4
            have hN4 : NumsAt (W3.setCell ⟨w2.heap.size, (Drl.nd ar n).letter.toNat, none⟩ (.int .i64 a')) w2.heap.size (Drl.upd v (Drl.nd ar n).letter.toNat a') := hn3.set _ _
            have hv4 : ∀ c, (Drl.upd v (Drl.nd ar n).letter.toNat a') c ≤ 999999 := fun c => by unfold Drl.upd; split; (· omega); (· exact HV.out c)
            have hr := HR2.out
            rw [if_pos HL0.out] at hr
            cases hq : Drl.run ar k2 (.seq (Drl.nd ar d).body (Drl.upd v (Drl.nd ar n).letter.toNat a')) st2 with
            | none => rw [hq] at hr; cases hr
            | some q =>
              rw [hq] at hr
              refine (HP.out k2 (by omega) (W3.setCell ⟨w2.heap.size, (Drl.nd ar n).letter.toNat, none⟩ (.int .i64 a')) B R Bt w2.heap.size d sv2 st2 ad wv bv ar (Drl.upd v (Drl.nd ar n).letter.toNat a') q hS4 HG.out hN4 hv4 hd hq).mono ?_
              rintro e w5 ⟨hL5, hm5⟩
              have hBw2 : B ≤ w2.heap.size := by have := lt_of HS2.out.run.at_; have := HS2.out.run.base; omega
              have HL5 := Lib.hid ((HL2.out.trans ((Left.refl B R w2).next hBw2 hb4)).trans hL5)
              cases q with
              | error x =>
                obtain ⟨v', rfl, b', rfl, hb'⟩ := hm5
                obtain rfl : Except.error x = r := Option.some.inj hr
                have HB := Lib.hid hb'
                clear hL5 hb' hr hq hS4 hN4 hv4 hb4
                go_wp2_with fail
                go_ret
                exact ⟨HL5.out, _, rfl, _, rfl, HB.out⟩
              | ok st3 =>
                obtain ⟨rfl, sv3, hR3⟩ := hm5
                have HR3 := Lib.hid hR3
                have HRR := Lib.hid hr
                clear hL5 hR3 hr hq hS4 hN4 hv4 hb4
                have hw1 : IntKind.i64.wrap (a' + 1) = a' + 1 := IntWalk.i64_in _ (by omega)
                go_wp2_with fail
                go_round
                case rel => exact ⟨a' + 1, k2, st3, sv3, rfl, by omega, by omega, by omega, HRR.out, HL5.out, HR3.out⟩
                case measure => simp only [intOf]; omega
      · have hab' : ¬ a' ≤ b := hab
        cases k' with
        | zero => simp [Drl.run] at hru
        | succ k2 =>
        simp only [Drl.run, if_neg hab] at hru
        obtain rfl : Except.ok st' = r := Option.some.inj hru
        have HLw := Lib.hid hL
        have HRw := Lib.hid hR
        clear hL hR hru
        go_wp2_with fail
        go_ret
        exact ⟨HLw.out, rfl, _, HRw.out⟩
end Go.Proofs.YtfbmlnkgjgnnhaaGreatDoor
end
