import Derived.Test.YtfbmlnkgjgnnhaaGreatDoorA15
import Derived.Deep.AppendLies
namespace Go.Proofs.YtfbmlnkgjgnnhaaGreatDoor
open Go.RowKit

theorem wrongE_for {st : Drl.RSt} {x : Drl.Ln} (h : Drl.wrongE st x = 0) (q : Drl.wd x.ws 0 = Drl.wFor) : x.ws.length = 4 ∧ Drl.letterB (Drl.wd x.ws 1) = true := by
  unfold Drl.wrongE at h
  rw [if_neg (by rw [q]; decide), if_neg (by rw [q]; decide), if_pos q] at h
  split at h
  · cases h
  · next hn =>
    simp only [Bool.or_eq_true, not_or, Bool.not_eq_true', decide_eq_true_eq, Decidable.not_not, Bool.not_eq_true] at hn
    exact ⟨hn.1.1, by simpa using hn.1.2⟩
theorem wrongE_use {st : Drl.RSt} {x : Drl.Ln} (h : Drl.wrongE st x = 0) (q : Drl.wd x.ws 0 = Drl.wUse) : x.ws.length = 2 ∧ ∃ i, Drl.look st.names (Drl.wd x.ws 1) = some i := by
  unfold Drl.wrongE at h
  rw [if_neg (by rw [q]; decide), if_neg (by rw [q]; decide), if_neg (by rw [q]; decide), if_pos q] at h
  split at h
  · cases h
  · next hn =>
    simp only [Bool.or_eq_true, not_or, decide_eq_true_eq, Decidable.not_not] at hn
    refine ⟨hn.1, ?_⟩
    cases e : Drl.look st.names (Drl.wd x.ws 1) with
    | none => rw [e] at hn; simp at hn
    | some i => exact ⟨i, rfl⟩
theorem look_lt {names : List (Drl.Str × Nat)} {n i : Nat} {s : Drl.Str} (h : ∀ p ∈ names, p.2 < n) (hi : Drl.look names s = some i) : i < n := by
  unfold Drl.look at hi
  obtain ⟨p, hp, rfl⟩ := Option.map_eq_some_iff.1 hi
  exact h p (List.mem_of_find?_eq_some hp)

/-- an append of which the run is known -/
theorem wpList_append_run {P : Program} {w : World} {ops : Array Oper} {rest : List Oper} {o : Oper} {a : Act} {Q : Exit → Act → World → Prop} (hgd : o.guard = none) (s x : Operand) (t : TypeId)
    (ho : o.op = .call { callee := .builtin .append, args := #[s, x], argTypes := #[t, t] }) {v xv r : Value} {w' : World} (hs : a.eval s = v) (hx : a.eval x = xv)
    (hr : (Builtin.append_ #[t, t] o.type #[v, xv]).run P w = .ok r w') (h : wpList P ops Q rest (a.put o.dst r) w') : wpList P ops Q (o :: rest) a w :=
  wpList_plain hgd fun K hK => by
    unfold Oper.wp execOp
    simp only [ho, resolve, invoke, builtin, Sem.run_bind, Sem.run_pure, Result.andThen_ok, List.map_toArray, List.map_cons, List.map_nil, hs, hx, hr]
    exact hK _ _ h

theorem wpList_append_at {P : Program} {w : World} {ops : Array Oper} {rest : List Oper} {o : Oper} {a : Act} {Q : Exit → Act → World → Prop} (hgd : o.guard = none) (s x : Operand) (t : TypeId)
    (ho : o.op = .call { callee := .builtin .append, args := #[s, x], argTypes := #[t, t] }) (h : ∃ r w', (Builtin.append_ #[t, t] o.type #[a.eval s, a.eval x]).run P w = .ok r w' ∧ wpList P ops Q rest (a.put o.dst r) w') : wpList P ops Q (o :: rest) a w := by
  obtain ⟨r, w', h1, h2⟩ := h
  exact wpList_append_run hgd s x t ho rfl rfl h1 h2

theorem info_pNode : (Tryz.prog.info? 50).map (fun i => (i.zero, i.size, i.bytes)) = some (some (.pointer none), 1, 8) := by kernel_rfl

theorem At.body {w W w1 : World} {ls : List Drl.Ln} {k Rb Mb : Nat} {ov : Value} {ad : Nat → Nat} {wv bv : Nat → Value} {st : Drl.RSt} (h : At w ls (k + 1) Rb Mb ov ad wv bv st W) (i n : Nat) (hi : i < st.ar.length) (hn : n < st.ar.length)
    (hbl : (Drl.nd st.ar i).body.length ≤ k) (v : Value) (hg : W.grownBy w1 (bv i).ownBlock) (hown : w1.ownsRow w.heap.size 50 1 v ((Drl.nd st.ar i).body.length + 1) ((Drl.nd st.ar i).body.map (nptr ad) ++ [nptr ad n]))
    (g : Nat) (hv : v.ownBlock = some g) (hat : (bv i).ownBlock = some g ∨ W.heap.size ≤ g) :
    At w ls (k + 1) Rb Mb ov ad wv (setF bv i v) { st with ar := Drl.addTo st.ar i n } (w1.setCell ⟨ad i, 4, none⟩ v) := by
  obtain ⟨h1, h2⟩ := h.mem.addBody i n hi v hg hown g hv hat
  refine ⟨h.hk, h1, h.inv.add i n hn, h.keep.trans h2, by rw [Drl.addTo_len]; exact h.alen, h.olen, fun j hj => ?_⟩
  rw [Drl.addTo_len] at hj
  rw [Drl.nd_addTo hj]
  by_cases e : j = i
  · subst e; rw [if_pos rfl]; simp; exact hbl
  · rw [if_neg e]; exact h.blen j hj

theorem At.open_ {w W w1 : World} {ls : List Drl.Ln} {k Rb Mb : Nat} {ov : Value} {ad : Nat → Nat} {wv bv : Nat → Value} {st : Drl.RSt} (h : At w ls (k + 1) Rb Mb ov ad wv bv st W) (n : Nat) (hn : n < st.ar.length) (h0 : n ≠ 0)
    (hd : Drl.wd (Drl.nd st.ar n).ws 0 = Drl.wDef → st.opn.length ≤ 1 ∧ (Drl.nd st.ar n).ws.length = 2 ∧ Drl.look st.names (Drl.wd (Drl.nd st.ar n).ws 1) = none)
    (hol : st.opn.length ≤ k + 1) (v : Value) (hg : W.grownBy w1 ov.ownBlock) (hown : w1.ownsRow w.heap.size 50 1 v (st.opn.length + 1) (st.opn.map (nptr ad) ++ [nptr ad n]))
    (g : Nat) (hv : v.ownBlock = some g) (hat : ov.ownBlock = some g ∨ W.heap.size ≤ g) :
    At w ls (k + 1) Rb Mb v ad wv bv { st with opn := st.opn ++ [n] } (w1.setCell ⟨Rb, 0, none⟩ v) := by
  obtain ⟨h1, h2⟩ := h.mem.addOpen n v hg hown g hv hat
  exact ⟨h.hk, h1, h.inv.open_ n hn h0 hd, h.keep.trans h2, h.alen, by simp; omega, h.blen⟩

theorem _root_.Drl.Inv.setLast {ar : List Drl.Nd} {x x' : Drl.Nd} {opn : List Nat} {names : List (Drl.Str × Nat)} (h : Drl.Inv ⟨ar ++ [x], opn, names⟩) (hw : x'.ws = x.ws) (hb : x'.body = x.body) (hu : ∀ d, x'.use = some d → d < (ar ++ [x]).length) : Drl.Inv ⟨ar ++ [x'], opn, names⟩ := by
  have hlen : (ar ++ [x']).length = (ar ++ [x]).length := by simp
  have hL : ar.length < (ar ++ [x]).length := by simp
  have hnd : ∀ i, i < (ar ++ [x]).length → (i = ar.length ∧ Drl.nd (ar ++ [x']) i = x' ∧ Drl.nd (ar ++ [x]) i = x) ∨ (Drl.nd (ar ++ [x']) i = Drl.nd (ar ++ [x]) i) := fun i hi => by
    by_cases e : i = ar.length
    · subst e; exact .inl ⟨rfl, Drl.nd_last _ _, Drl.nd_last _ _⟩
    · have : i < ar.length := by simp at hi; omega
      exact .inr (by rw [Drl.nd_append this, Drl.nd_append this])
  have hws : ∀ i, i < (ar ++ [x]).length → (Drl.nd (ar ++ [x']) i).ws = (Drl.nd (ar ++ [x]) i).ws := fun i hi => by
    rcases hnd i hi with ⟨_, e1, e2⟩ | e
    · rw [e1, e2, hw]
    · rw [e]
  refine ⟨h.opn0, fun i hi => by rw [hlen]; exact h.opnlt i hi, ?_, ?_, ?_, fun p hp => by rw [hlen]; exact h.namelt p hp, ?_, ?_⟩
  · intro i h0 hi
    rw [hlen] at hi
    rw [hws i hi]; exact h.ws i h0 hi
  · intro i hi k hk
    rw [hlen] at hi ⊢
    rcases hnd i hi with ⟨_, e1, e2⟩ | e
    · rw [e1, hb, ← e2] at hk; exact h.bodylt i hi k hk
    · rw [e] at hk; exact h.bodylt i hi k hk
  · intro i hi d hd
    rw [hlen] at hi ⊢
    rcases hnd i hi with ⟨_, e1, e2⟩ | e
    · rw [e1] at hd; exact hu d hd
    · rw [e] at hd; exact h.uselt i hi d hd
  · intro i hi h0 hd
    have hlt := h.opnlt i hi
    rw [hws i hlt] at hd ⊢
    exact h.defs i hi h0 hd
  · intro k hk i hi
    have hlt := h.opnlt i (List.mem_of_getElem? hi)
    rw [hws i hlt]
    exact h.defpos k hk i hi

theorem At.setLast {w W : World} {ls : List Drl.Ln} {k Rb Mb : Nat} {ov : Value} {ad : Nat → Nat} {wv bv : Nat → Value} {ar : List Drl.Nd} {x : Drl.Nd} {opn : List Nat} {names : List (Drl.Str × Nat)} (h : At w ls k Rb Mb ov ad wv bv ⟨ar ++ [x], opn, names⟩ W)
    (j : Nat) (v : Value) (x' : Drl.Nd) (hc : ∀ a b, (nodeCells ad a b x).setIfInBounds j v = nodeCells ad a b x') (hw : x'.ws = x.ws) (hb : x'.body = x.body) (hu : ∀ d, x'.use = some d → d < (ar ++ [x]).length) :
    At w ls k Rb Mb ov ad wv bv ⟨ar ++ [x'], opn, names⟩ (W.setCell ⟨ad ar.length, j, none⟩ v) := by
  obtain ⟨h1, h2⟩ := h.mem.setLast j v x' hc hw hb
  refine ⟨h.hk, h1, h.inv.setLast hw hb hu, h.keep.trans h2, by have := h.alen; simpa using this, h.olen, fun i hi => ?_⟩
  have hi' : i < (ar ++ [x]).length := by simpa using hi
  by_cases e : i = ar.length
  · subst e
    have := h.blen _ hi'
    simp only [Drl.nd_last] at this ⊢
    rw [hb]; exact this
  · have e2 : i < ar.length := by simp at hi; omega
    have := h.blen i hi'
    simp only [Drl.nd_append e2] at this ⊢
    exact this

theorem append_ptr {W : World} {base : Nat} {v : Value} {n : Nat} {xs : List Value} (hown : W.ownsRow base 50 1 v n xs) (p : Value) (hp : p.oneCell' = true) (hn : n ≤ 70000) (hB : base ≤ W.heap.size) :
    ∃ g cap w1, (Builtin.append_ #[60, 60] 60 #[v, .slice (some ⟨W.heap.size, 0, none⟩) 1 1]).run Tryz.prog (W.alloc (.cells #[p] 50)) = .ok (.slice (some ⟨g, 0, none⟩) (n + 1) cap) w1 ∧
      w1.ownsRow base 50 1 (.slice (some ⟨g, 0, none⟩) (n + 1) cap) (n + 1) (xs ++ [p]) ∧ (W.alloc (.cells #[p] 50)).grownBy w1 v.ownBlock ∧ (v.ownBlock = some g ∨ (W.alloc (.cells #[p] 50)).heap.size ≤ g) := by
  obtain ⟨i0, hi, hz0, hz1, hz2⟩ := info_parts info_pNode
  obtain ⟨g, cap, w1, h1, h2, h3, h4, _⟩ := run_append_lies (P := Tryz.prog) (W.alloc (.cells #[p] 50)) 60 60 base 50 i0 _ 1 8 Tryz.underlying60 hi hz0 hz1 hz2 rfl (by decide) v n xs (hown.alloc _) ⟨W.heap.size, 0, none⟩ 1 1 [p] rfl (World.news_of_block (heap_new W _)) (by simpa using hp) (by decide) (by unfold maxLen; omega) (by omega) (by simp; omega) _ rfl
  exact ⟨g, cap, w1, h1, h2, h3, h4.imp id (fun h => Nat.le_of_eq h.symm)⟩

theorem At.bodyRun {w W : World} {ls : List Drl.Ln} {k Rb Mb : Nat} {ov : Value} {ad : Nat → Nat} {wv bv : Nat → Value} {st : Drl.RSt} (h : At w ls (k + 1) Rb Mb ov ad wv bv st W) (hl : ls.length ≤ 65536) (i n : Nat) (hi : i < st.ar.length) (hn : n < st.ar.length)
    (hbl : (Drl.nd st.ar i).body.length ≤ k) : ∃ g cap w1, (Builtin.append_ #[60, 60] 60 #[bv i, .slice (some ⟨W.heap.size, 0, none⟩) 1 1]).run Tryz.prog (W.alloc (.cells #[.pointer (some ⟨ad n, 0, none⟩)] 50)) = .ok (.slice (some ⟨g, 0, none⟩) ((Drl.nd st.ar i).body.length + 1) cap) w1 ∧
      w1.frozen? ⟨ad i, 4, none⟩ = false ∧ w1.cell? ⟨ad i, 4, none⟩ = some (bv i) ∧
      At w ls (k + 1) Rb Mb ov ad wv (setF bv i (.slice (some ⟨g, 0, none⟩) ((Drl.nd st.ar i).body.length + 1) cap)) { st with ar := Drl.addTo st.ar i n } (w1.setCell ⟨ad i, 4, none⟩ (.slice (some ⟨g, 0, none⟩) ((Drl.nd st.ar i).body.length + 1) cap)) := by
  have hk := h.hk
  obtain ⟨g, cap, w1, h1, h2, h3, h4⟩ := append_ptr (h.mem.nodes.body i hi) (.pointer (some ⟨ad n, 0, none⟩)) rfl (by omega) h.keep.size
  have hA := h.next ((Below.refl W.heap.size W).alloc (Nat.le_refl _) (.cells #[.pointer (some ⟨ad n, 0, none⟩)] 50))
  have hrow : ∀ g, (bv i).ownBlock = some g → ∃ c fz, (W.alloc (.cells #[.pointer (some ⟨ad n, 0, none⟩)] 50)).heap[g]? = some (.cells c 50 fz) := fun g hg => by
    obtain ⟨c, fz, h1, _⟩ := ownsRow_row (hA.mem.nodes.body i hi) g hg
    exact ⟨c, fz, h1⟩
  obtain ⟨n1, _⟩ := hA.mem.rows h3 hrow
  exact ⟨g, cap, w1, h1, free_of (n1 i hi) 4, cell_of (n1 i hi) rfl, hA.body i n hi hn hbl _ h3 h2 g rfl h4⟩

theorem At.openRun {w W : World} {ls : List Drl.Ln} {k Rb Mb : Nat} {ov : Value} {ad : Nat → Nat} {wv bv : Nat → Value} {st : Drl.RSt} (h : At w ls (k + 1) Rb Mb ov ad wv bv st W) (hl : ls.length ≤ 65536) (n : Nat) (hn : n < st.ar.length) (h0 : n ≠ 0)
    (hd : Drl.wd (Drl.nd st.ar n).ws 0 = Drl.wDef → st.opn.length ≤ 1 ∧ (Drl.nd st.ar n).ws.length = 2 ∧ Drl.look st.names (Drl.wd (Drl.nd st.ar n).ws 1) = none)
    (hol : st.opn.length ≤ k + 1) : ∃ g cap w1, (Builtin.append_ #[60, 60] 60 #[ov, .slice (some ⟨W.heap.size, 0, none⟩) 1 1]).run Tryz.prog (W.alloc (.cells #[.pointer (some ⟨ad n, 0, none⟩)] 50)) = .ok (.slice (some ⟨g, 0, none⟩) (st.opn.length + 1) cap) w1 ∧
      w1.frozen? ⟨Rb, 0, none⟩ = false ∧ w1.cell? ⟨Rb, 0, none⟩ = some ov ∧
      At w ls (k + 1) Rb Mb (.slice (some ⟨g, 0, none⟩) (st.opn.length + 1) cap) ad wv bv { st with opn := st.opn ++ [n] } (w1.setCell ⟨Rb, 0, none⟩ (.slice (some ⟨g, 0, none⟩) (st.opn.length + 1) cap)) := by
  have hk := h.hk
  obtain ⟨g, cap, w1, h1, h2, h3, h4⟩ := append_ptr h.mem.opn (.pointer (some ⟨ad n, 0, none⟩)) rfl (by omega) h.keep.size
  have hA := h.next ((Below.refl W.heap.size W).alloc (Nat.le_refl _) (.cells #[.pointer (some ⟨ad n, 0, none⟩)] 50))
  have hrow : ∀ g, ov.ownBlock = some g → ∃ c fz, (W.alloc (.cells #[.pointer (some ⟨ad n, 0, none⟩)] 50)).heap[g]? = some (.cells c 50 fz) := fun g hg => by
    obtain ⟨c, fz, h1, _⟩ := ownsRow_row hA.mem.opn g hg
    exact ⟨c, fz, h1⟩
  obtain ⟨_, _, r1, _⟩ := hA.mem.rows h3 hrow
  exact ⟨g, cap, w1, h1, free_of r1 0, cell_of r1 rfl, hA.open_ n hn h0 hd hol _ h3 h2 g rfl h4⟩
end Go.Proofs.YtfbmlnkgjgnnhaaGreatDoor
