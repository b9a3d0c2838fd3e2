import Derived.Test.YtfbmlnkgjgnnhaaGreatDoorJA16
set_option linter.unusedSimpArgs false
set_option linter.unusedVariables false

section
namespace Go.Proofs.YtfbmlnkgjgnnhaaGreatDoor
open Go.RowKit

set_option maxRecDepth 100000
set_option maxHeartbeats 2000000

/-- as the reading begins -/
theorem At.start (w w4 : World) (ls : List Drl.Ln) (hb : Below w.heap.size w w4)
    (h0 : w4.heap[w.heap.size]? = some (.cells #[.int .i64 0, .string ⟨#[]⟩, .slice none 0 0, .int .u8 0, .slice none 0 0, .pointer none] 62 (0, 0)))
    (h1 : w4.heap[w.heap.size + 1]? = some (.cells #[.pointer (some ⟨w.heap.size, 0, none⟩)] 50 (0, 0))) (h2 : w4.heap[w.heap.size + 1 + 1]? = some (.map #[] 0))
    (h3 : w4.heap[w.heap.size + 1 + 1 + 1]? = some (.cells #[.slice (some ⟨w.heap.size + 1, 0, none⟩) 1 1, .map (some (w.heap.size + 1 + 1))] 95 (0, 0))) :
    At w ls 0 (w.heap.size + 1 + 1 + 1) (w.heap.size + 1 + 1) (.slice (some ⟨w.heap.size + 1, 0, none⟩) 1 1) (fun _ => w.heap.size) (fun _ => .slice none 0 0) (fun _ => .slice none 0 0) Drl.st0 w4 := by
  have hz : ∀ {i}, i < Drl.st0.ar.length → i = 0 := fun h => by simp [Drl.st0] at h; omega
  refine ⟨Nat.zero_le _, ⟨⟨?_, ?_, ?_, ?_, ?_, fun i hi => Nat.le_refl _⟩, ?_, h3, ?_, ⟨#[], 0, h2, rfl⟩, by omega, by omega⟩, Drl.Inv.start, hb, by decide, by decide, ?_⟩
  · intro i hi; obtain rfl := hz hi; exact h0
  · intro i hi; obtain rfl := hz hi; exact .inl ⟨rfl, rfl⟩
  · intro i hi; obtain rfl := hz hi; exact World.ownsRow_nil _ _ _ _
  · intro i j hi hj _; rw [hz hi, hz hj]
  · intro i j g hi hj _ _; rw [hz hi, hz hj]
  · intro i g hi h; simp [Value.ownBlock] at h
  · exact ⟨rfl, .inr ⟨w.heap.size + 1, 1, #[.pointer (some ⟨w.heap.size, 0, none⟩)], rfl, by omega, h1, by decide, by decide, rfl, rfl⟩⟩
  · intro i hi; obtain rfl := hz hi; exact Nat.zero_le _

theorem read_any (ao : Option Addr) (cap : Nat) (ls : List Drl.Ln) (w : World) (h : ReadIn w ao ls) :
    Calls Tryz.prog 21 #[.slice ao ls.length cap] w (ReadPost w (Drl.readFrom Drl.st0 ls)) := by
  have hmm := @run_makeMap Tryz.prog
  have hsm : ∀ x ∈ ls, 1 ≤ x.ws.length ∧ ∀ t ∈ x.ws, t.length ≤ 65536 := fun x hx => ⟨(h.small x hx).1, (h.small x hx).2.1⟩
  go_enter Tryz.func21, Tryz.ntmps21
  go_wp2_with fail
  refine wp_scope_three (JAll w ao cap ls) (mu ls) ?hJ rfl rfl rfl ?first ?pass0 ?pass1 ?pass2
  case hJ =>
    intro l a wr hJ
    match l, hJ with
    | 0, _ => exact .inl rfl
    | 1, _ => exact .inr (.inl rfl)
    | 2, _ => exact .inr (.inr rfl)
  case first =>
    go_wp2_with fail
    go_step3
    rename_i K hK
    refine hK _ _ ?_
    generalize hw4 : (((w.alloc (.cells #[.int .i64 0, .string ⟨#[]⟩, .slice none 0 0, .int .u8 0, .slice none 0 0, .pointer none] 62)).alloc (.cells #[.pointer (some ⟨w.heap.size, 0, none⟩)] 50)).alloc (.map #[] 0)).alloc (.cells #[.slice (some ⟨w.heap.size + 1, 0, none⟩) 1 1, .map (some (w.heap.size + 1 + 1))] 95) = w4
    have hat : At w ls 0 (w.heap.size + 1 + 1 + 1) (w.heap.size + 1 + 1) (.slice (some ⟨w.heap.size + 1, 0, none⟩) 1 1) (fun _ => w.heap.size) (fun _ => .slice none 0 0) (fun _ => .slice none 0 0) Drl.st0 w4 := by
      have hs1 : ∀ (W : World) (o : Obj), (W.alloc o).heap.size = W.heap.size + 1 := fun W o => size_alloc W o
      refine At.start w w4 ls ?_ ?_ ?_ ?_ ?_
      · rw [← hw4]
        refine ((((Below.refl w.heap.size w).alloc (Nat.le_refl _) _).alloc ?_ _).alloc ?_ _).alloc ?_ _ <;> simp only [hs1] <;> omega
      · rw [← hw4]; exact heap_old (heap_old (heap_old (heap_new _ _)))
      · rw [← hw4]; refine heap_old (heap_old ?_); rw [← hs1 w (.cells #[.int .i64 0, .string ⟨#[]⟩, .slice none 0 0, .int .u8 0, .slice none 0 0, .pointer none] 62)]; exact heap_new _ _
      · rw [← hw4]; refine heap_old ?_; have := heap_new ((w.alloc (.cells #[.int .i64 0, .string ⟨#[]⟩, .slice none 0 0, .int .u8 0, .slice none 0 0, .pointer none] 62)).alloc (.cells #[.pointer (some ⟨w.heap.size, 0, none⟩)] 50)) (.map #[] 0); simp only [hs1] at this; exact this
      · rw [← hw4]; have := heap_new (((w.alloc (.cells #[.int .i64 0, .string ⟨#[]⟩, .slice none 0 0, .int .u8 0, .slice none 0 0, .pointer none] 62)).alloc (.cells #[.pointer (some ⟨w.heap.size, 0, none⟩)] 50)).alloc (.map #[] 0)) (.cells #[.slice (some ⟨w.heap.size + 1, 0, none⟩) 1 1, .map (some (w.heap.size + 1 + 1))] 95); simp only [hs1] at this; exact this
    refine Code.wp_mono (fun e a w' hq => ?_) (read_pass1 w ao cap ls _ w4 _ rfl ?_ h)
    · cases e with
      | goto l => exact hq.1
      | _ => exact hq
    · exact JNext.mk_ (k := 0) (ad := fun _ => w.heap.size) rfl rfl Fr.intro hat (by rw [List.drop_zero])
  case pass0 =>
    intro a wr hJ
    exact read_pass0 w ao cap ls a wr _ _ rfl hJ h.len
  case pass1 =>
    intro a wr hJ
    refine wp_seq (wp_skip ?_)
    exact read_pass1 w ao cap ls a wr _ rfl hJ h
  case pass2 =>
    intro a wr hJ
    exact read_pass2 w ao cap ls a wr _ rfl hJ h.len hsm
end Go.Proofs.YtfbmlnkgjgnnhaaGreatDoor
end

section
namespace Go.Proofs.YtfbmlnkgjgnnhaaGreatDoor
open Go.RowKit

set_option maxRecDepth 100000
set_option maxHeartbeats 1000000

theorem toList_mk (l : List UInt8) : (⟨l.toArray⟩ : ByteArray).data.toList = l := rfl

theorem count_ok (v : Drl.Nums) (V : Nat) (s : ByteArray) (w : World) (hE : Env w) (hN : NumsAt w V v) (hv : ∀ c, v c ≤ 999999) (hs : s.size ≤ 65536) (n : Int) (hn : Drl.cnt v s.data.toList = some n) :
    Calls Tryz.prog 39 #[.pointer (some ⟨V, 0, none⟩), .string s] w fun e w' => e = .returned (.int .i64 n) ∧ Below w.heap.size w w' := by
  have hok : Drl.numOk (Drl.filled v s.data.toList) = true := by
    unfold Drl.cnt at hn
    split at hn
    · assumption
    · cases hn
  have hnv : (Drl.numVal (Drl.filled v s.data.toList) : Int) = n := by
    unfold Drl.cnt at hn
    rw [if_pos hok] at hn
    exact Option.some.inj hn
  go_enter Tryz.func39, Tryz.ntmps39
  go_wp2_with fail
  refine (filled_any v V s w hE hN hv hs).mono ?_
  rintro e w1 ⟨rfl, hb1⟩
  go_wp2_with fail
  refine (atoi_ok ⟨(Drl.filled v s.data.toList).toArray⟩ (by rw [toList_mk]; exact hok) w1).mono ?_
  rintro e w2 ⟨rfl, hb2⟩
  rw [toList_mk, hnv]
  have hb := hb1.trans (hb2.mono hb1.size)
  clear hb1 hb2 hn hok hnv
  go_wp2_with fail
  go_ret
  exact ⟨rfl, hb⟩

theorem cnt_le {v : Drl.Nums} {s : Drl.Str} {n : Int} (h : Drl.cnt v s = some n) : 0 ≤ n ∧ n ≤ 999999 := by
  unfold Drl.cnt at h
  split at h
  · next hok =>
    have := Drl.numVal_lt _ hok
    have := Option.some.inj h
    omega
  · cases h

theorem first_ok (n : Int) (h0 : 0 ≤ n) (hn : n ≤ 999999) (w : World) (hE : Env w) :
    Calls Tryz.prog 29 #[.int .i64 n] w fun e w' => e = .returned (.string ⟨(Drl.wClients ++ 32 :: Lib.decDigits n.toNat).toArray⟩) ∧ Below w.heap.size w w' := by
  go_enter Tryz.func29, Tryz.ntmps29
  go_wp2_with fail
  refine (itoa_ok n h0 (by omega) w hE).mono ?_
  rintro e w1 ⟨rfl, hb1⟩
  have hlen := Drl.decDigits_len 5 n.toNat (by omega)
  have hx : ¬ 9223372036854775807 < 8 + (Lib.decDigits n.toNat).length := by omega
  go_wp2_with fail
  go_ret
  exact ⟨rfl, hb1⟩

/-! ### the runner -/
def stepCells (l : List Drl.Dr) : List Value := l.flatMap fun x => [.int .i64 x.line, strV x.text, .bool x.want]
structure RunAt (w : World) (B R : Nat) (sv : Value) (st : Drl.PSt) : Prop where
  at_ : w.heap[R]? = some (.cells #[sv, .bool st.said, .int .i64 st.turns] 55 (0, 0))
  row : w.ownsRow B 37 3 sv st.steps.length (stepCells st.steps)
  base : B ≤ R
  turns : st.turns ≤ 65536
  steps : st.steps.length ≤ 4096

/-- what going through leaves of all else -/
structure Left (B R : Nat) (w w' : World) : Prop where
  keep : Keep (fun k => k = R) (fun e => e = 37) w w'
  below : Below B w w'
theorem Left.refl (B R : Nat) (w : World) : Left B R w w := ⟨Keep.refl _ _ w, Below.refl B w⟩
theorem Left.trans {B R : Nat} {a b c : World} (h : Left B R a b) (k : Left B R b c) : Left B R a c := ⟨h.keep.trans k.keep, h.below.trans k.below⟩
theorem Left.next {B R : Nat} {a b c : World} (h : Left B R a b) (hB : B ≤ a.heap.size) (k : Below b.heap.size b c) : Left B R a c := ⟨h.keep.next k, h.below.trans (k.mono (Nat.le_trans hB h.below.size))⟩
theorem RunAt.next {w w' : World} {B R : Nat} {sv : Value} {st : Drl.PSt} (h : RunAt w B R sv st) (hb : Below w.heap.size w w') : RunAt w' B R sv st := by
  have hk : Keep (fun _ => False) (fun _ => False) w w' := .of_next hb
  exact ⟨hk.cells h.at_ id id, ownsRow_keep h.row hk (fun _ _ _ _ => id) id, h.base, h.turns, h.steps⟩
theorem RunAt.drew {w : World} {B R : Nat} {sv : Value} {st : Drl.PSt} (h : RunAt w B R sv st) : RunAt w.drew B R sv st := h.next (below_drew (Below.refl _ w))

/-- what is answered, and the runner behind it -/
def PlayPost (w : World) (B R : Nat) (r : Except Drl.Err Drl.PSt) (e : Ending) (w' : World) : Prop :=
  Left B R w w' ∧ match r with
    | .error x => ∃ v, e = .returned v ∧ ErrAt w' v x.1 x.2
    | .ok st => e = .returned .nilIface ∧ ∃ sv, RunAt w' B R sv st

theorem turn_ok (w : World) (B R N : Nat) (sv : Value) (st : Drl.PSt) (h : RunAt w B R sv st) (at_ : Nat) (hN : w.cell? ⟨N, 0, none⟩ = some (.int .i64 at_)) :
    Calls Tryz.prog 67 #[.pointer (some ⟨R, 0, none⟩), .pointer (some ⟨N, 0, none⟩)] w (PlayPost w B R (Drl.turn at_ st)) := by
  have ht := h.turns
  have c2 : w.cell? ⟨R, 2, none⟩ = some (.int .i64 st.turns) := cell_of h.at_ rfl
  have z2 : w.frozen? ⟨R, 2, none⟩ = false := free_of h.at_ 2
  have hBs : B ≤ w.heap.size := by have := lt_of h.at_; have := h.base; omega
  by_cases e : st.turns = 65536
  · have e1 : ((st.turns : Int) == 65536) = true := by rw [e]; rfl
    have HE := Lib.hid e
    clear e
    go_enter Tryz.func67, Tryz.ntmps67
    go_wp2_with fail
    refine (wrap_any _ _ _).mono ?_
    rintro e w' ⟨rfl, rfl⟩
    go_wp2_with fail
    go_ret
    have hr : Drl.turn at_ st = .error (at_, 294) := by simp [Drl.turn, HE.out]
    rw [hr]
    exact ⟨(Left.refl B R w).next hBs ((Below.refl _ _).alloc (Nat.le_refl _) _), _, rfl, _, rfl, heap_new _ _⟩
  · have e1 : ((st.turns : Int) == 65536) = false := by simp; omega
    have HE := Lib.hid e
    have H := Lib.hid h
    clear h
    go_enter Tryz.func67, Tryz.ntmps67
    go_wp2_with fail
    go_ret
    have hr : Drl.turn at_ st = .ok { st with turns := st.turns + 1 } := by simp [Drl.turn, HE.out]
    rw [hr]
    have hk : Keep (fun k => k = R) (fun e => e = 37) w (w.setCell ⟨R, 2, none⟩ (.int .i64 ((st.turns : Int) + 1))) := (Keep.refl (fun k => k = R) (fun e => e = 37) w).setCell ⟨R, 2, none⟩ rfl _
    refine ⟨⟨hk, (Below.refl B w).setCell H.out.base _⟩, rfl, sv, ?_, ?_, H.out.base, by dsimp only; have := HE.out; omega, H.out.steps⟩
    · rw [heap_set H.out.at_]; simp
    · have hk' : Keep (fun k => k = R) (fun _ => False) w (w.setCell ⟨R, 2, none⟩ (.int .i64 ((st.turns : Int) + 1))) := (Keep.refl (fun k => k = R) (fun _ => False) w).setCell ⟨R, 2, none⟩ rfl _
      exact ownsRow_keep H.out.row hk' (fun b c fz hb e => by subst e; exact ne_of_type hb H.out.at_ (by decide) rfl) id
end Go.Proofs.YtfbmlnkgjgnnhaaGreatDoor
end

section
namespace Go.Proofs.YtfbmlnkgjgnnhaaGreatDoor
open Go.RowKit

theorem step_append_at {P : Program} {w : World} {ops : Array Oper} {o : Oper} {a : Act} {K : Act → World → Prop} {Q : Exit → Act → World → Prop} {E : Prop} (hgd : o.guard = none) (s x : Operand) (t : TypeId)
    (ho : o.op = .call { callee := .builtin .append, args := #[s, x], argTypes := #[t, t] }) (h : ∃ r w', (Builtin.append_ #[t, t] o.type #[a.eval s, a.eval x]).run P w = .ok r w' ∧ K (a.put o.dst r) w') :
    if Region.wanted o (yielded ops a.tmps) = true then Oper.wp P o a w K Q else E := by
  have hw : Region.wanted o (yielded ops a.tmps) = true := by simp [Region.wanted, hgd]
  rw [if_pos hw]
  obtain ⟨r, w', hr, h2⟩ := h
  unfold Oper.wp execOp
  simp only [ho, resolve, invoke, builtin, Sem.run_bind, Sem.run_pure, Result.andThen_ok, List.map_toArray, List.map_cons, List.map_nil, hr]
  exact h2

theorem info_Drilled : (Tryz.prog.info? 37).map (fun i => (i.zero, i.size, i.bytes)) = some (some (.agg #[.int .i64 0, .string ⟨#[]⟩, .bool false]), 3, 32) := by kernel_rfl

theorem stepCells_len (l : List Drl.Dr) : (stepCells l).length = l.length * 3 := by
  induction l with
  | nil => rfl
  | cons a l ih => simp only [stepCells, List.flatMap_cons, List.length_append] at ih ⊢; rw [ih]; simp; omega
theorem stepCells_snoc (l : List Drl.Dr) (x : Drl.Dr) : stepCells (l ++ [x]) = stepCells l ++ [.int .i64 x.line, strV x.text, .bool x.want] := by simp [stepCells]

theorem RunAt.said_ {w : World} {B R : Nat} {sv : Value} {st : Drl.PSt} (h : RunAt w B R sv st) : RunAt (w.setCell ⟨R, 1, none⟩ (.bool true)) B R sv { st with said := true } ∧ Left B R w (w.setCell ⟨R, 1, none⟩ (.bool true)) := by
  have hk : Keep (fun k => k = R) (fun e => e = 37) w (w.setCell ⟨R, 1, none⟩ (.bool true)) := (Keep.refl (fun k => k = R) (fun e => e = 37) w).setCell ⟨R, 1, none⟩ rfl _
  have hk' : Keep (fun k => k = R) (fun _ => False) w (w.setCell ⟨R, 1, none⟩ (.bool true)) := (Keep.refl (fun k => k = R) (fun _ => False) w).setCell ⟨R, 1, none⟩ rfl _
  refine ⟨⟨?_, ?_, h.base, h.turns, h.steps⟩, hk, (Below.refl B w).setCell h.base _⟩
  · rw [heap_set h.at_]; simp
  · exact ownsRow_keep h.row hk' (fun b c fz hb e => by subst e; exact ne_of_type hb h.at_ (by decide) rfl) id

/-- a step joins -/
theorem RunAt.put {W : World} {B R : Nat} {sv : Value} {st : Drl.PSt} (h : RunAt W B R sv st) (hl : st.steps.length < 4096) (x : Drl.Dr) :
    ∃ g cap w1, (Builtin.append_ #[22, 22] 22 #[sv, .slice (some ⟨W.heap.size, 0, none⟩) 1 1]).run Tryz.prog (W.alloc (.cells #[.int .i64 x.line, strV x.text, .bool x.want] 37)) = .ok (.slice (some ⟨g, 0, none⟩) (st.steps.length + 1) cap) w1 ∧
      w1.frozen? ⟨R, 0, none⟩ = false ∧ w1.cell? ⟨R, 0, none⟩ = some sv ∧
      RunAt (w1.setCell ⟨R, 0, none⟩ (.slice (some ⟨g, 0, none⟩) (st.steps.length + 1) cap)) B R (.slice (some ⟨g, 0, none⟩) (st.steps.length + 1) cap) { st with steps := st.steps ++ [x] } ∧
      Left B R W (w1.setCell ⟨R, 0, none⟩ (.slice (some ⟨g, 0, none⟩) (st.steps.length + 1) cap)) := by
  have hRs := lt_of h.at_
  have hBs : B ≤ W.heap.size := by have := h.base; omega
  obtain ⟨i0, hi, hz0, hz1, hz2⟩ := info_parts info_Drilled
  obtain ⟨g, cap, w1, h1, h2, h3, h4, _⟩ := run_append_lies (P := Tryz.prog) (W.alloc (.cells #[.int .i64 x.line, strV x.text, .bool x.want] 37)) 22 22 B 37 i0 _ 3 32 Tryz.underlying22 hi hz0 hz1 hz2 rfl (by decide) sv st.steps.length (stepCells st.steps) (h.row.alloc _) ⟨W.heap.size, 0, none⟩ 1 1 [.int .i64 x.line, strV x.text, .bool x.want] rfl (World.news_of_block (heap_new W _)) (by simp [Value.oneCell', strV]) (by decide) (by unfold maxLen; omega) (by omega) (by simp; omega) _ rfl
  have hrow : ∀ g, sv.ownBlock = some g → ∃ c fz, W.heap[g]? = some (.cells c 37 fz) ∧ B ≤ g := fun g hg => by
    obtain ⟨c, fz, h1, h2⟩ := ownsRow_row h.row g hg
    exact ⟨c, fz, h1, h2⟩
  have hR : ∀ g, sv.ownBlock = some g → g ≠ R := fun g hg e => by
    obtain ⟨c, fz, h1, _⟩ := hrow g hg
    rw [e] at h1
    exact ne_of_type h1 h.at_ (by decide) rfl
  have r1 : w1.heap[R]? = some (.cells #[sv, .bool st.said, .int .i64 st.turns] 55 (0, 0)) := grown_heap h3 (heap_old h.at_) fun e => hR R e rfl
  have k1 : Keep (fun k => k = R) (fun e => e = 37) W w1 := ((Keep.refl (fun k => k = R) (fun e => e = 37) W).alloc _).grown h3 fun g hg => by
    obtain ⟨c, fz, h1, _⟩ := hrow g hg
    exact .inr ⟨c, _, fz, heap_old h1, rfl⟩
  have b1 : Below B W w1 := ((Below.refl B W).alloc hBs _).grown h3 (by simp; omega) fun g hg => (hrow g hg).choose_spec.choose_spec.2
  have k2 : Keep (fun k => k = R) (fun _ => False) w1 (w1.setCell ⟨R, 0, none⟩ (.slice (some ⟨g, 0, none⟩) (st.steps.length + 1) cap)) := (Keep.refl (fun k => k = R) (fun _ => False) w1).setCell ⟨R, 0, none⟩ rfl _
  have k3 : Keep (fun k => k = R) (fun e => e = 37) w1 (w1.setCell ⟨R, 0, none⟩ (.slice (some ⟨g, 0, none⟩) (st.steps.length + 1) cap)) := (Keep.refl (fun k => k = R) (fun e => e = 37) w1).setCell ⟨R, 0, none⟩ rfl _
  refine ⟨g, cap, w1, h1, free_of r1 0, cell_of r1 rfl, ⟨?_, ?_, h.base, h.turns, by simp; omega⟩, k1.trans k3, b1.setCell h.base _⟩
  · rw [heap_set r1]; simp
  · simp only [List.length_append, List.length_singleton, stepCells_snoc]
    exact ownsRow_keep h2 k2 (fun b c fz hb e => by subst e; exact ne_of_type hb r1 (by decide) rfl) id
end Go.Proofs.YtfbmlnkgjgnnhaaGreatDoor
end
