import Derived.Test.YtfbmlnkgjgnnhaaGreatDoorA13
import Derived.Test.YtfbmlnkgjgnnhaaGreatDoorK2
import Derived.BigQuiet
namespace Go.Proofs.YtfbmlnkgjgnnhaaGreatDoor
open Go.RowKit

set_option maxRecDepth 100000
set_option maxHeartbeats 1000000

/-- the list of what is open, in cells -/
theorem RMem.ov {w : World} {B Rb Mb : Nat} {ov : Value} {ad : Nat → Nat} {wv bv : Nat → Value} {st : Drl.RSt} (h : RMem w B Rb Mb ov ad wv bv st) (hne : st.opn ≠ []) :
    ∃ g cap, ov = .slice (some ⟨g, 0, none⟩) st.opn.length cap ∧ st.opn.length ≤ cap ∧ ∀ i (hi : i < st.opn.length), w.cell? ⟨g, i, none⟩ = some (nptr ad st.opn[i]) := by
  rcases h.opn.2 with ⟨_, h0⟩ | ⟨g, cap, cur, hv, hb, hh, hn, _, _, _⟩
  · exact absurd (List.eq_nil_of_length_eq_zero h0) hne
  · refine ⟨g, cap, hv, hn, fun i hi => ?_⟩
    have := h.opn.cells (g := g) (by rw [hv]; rfl) i (nptr ad st.opn[i]) (by simp [hi])
    have hadd : (⟨g, 0, none⟩ : Addr).add i = ⟨g, i, none⟩ := by unfold Addr.add; split <;> simp_all
    rw [hadd] at this
    exact this
theorem top_ptr {st : Drl.RSt} (hne : st.opn ≠ []) : ∃ h : st.opn.length - 1 < st.opn.length, st.opn[st.opn.length - 1] = Drl.top st := by
  have hl := List.length_pos_iff.2 hne
  refine ⟨by omega, ?_⟩
  have := Drl.top_at hne
  rw [List.getElem?_eq_getElem (by omega)] at this
  exact Option.some.inj this

theorem read_pass0 (w : World) (ao : Option Addr) (cap : Nat) (ls : List Drl.Ln) (a : Act) (wr : World) (m : Nat) (r0 : Code) (hr : findLabel readScope 0 = some r0) (hJ : JDone w ao cap ls a wr) (hl : ls.length ≤ 65536) : r0.wp Tryz.prog (PassPost w ao cap ls m) a wr := by
  have e := hr.symm.trans (rfl : findLabel readScope 0 = some _)
  obtain rfl := Option.some.inj e
  clear hr e
  obtain ⟨Rb, Mb, ov, ad, wv, bv, st, v6, v7, v8, ⟨u, rfl⟩, hat, hfrom⟩ := hJ
  have hne := hat.inv.ne
  obtain ⟨g, c, rfl, hc, hp⟩ := hat.mem.ov hne
  obtain ⟨t1, t2⟩ := top_ptr hne
  have hpt := hp _ t1
  rw [t2] at hpt
  have hol := hat.olen
  have hf : wr.cell? ⟨Rb, 0, none⟩ = some (.slice (some ⟨g, 0, none⟩) st.opn.length c) := cell_of hat.mem.rd rfl
  have HAT := Lib.hid hat
  have HF := Lib.hid hfrom
  have HNE := Lib.hid hne
  have hl1 : (1 : Int) ≤ (st.opn.length : Int) := by omega
  have hnode := hat.mem.nodes.node _ hat.inv.top_lt
  have hct : wr.cell? ⟨ad (Drl.top st), 0, none⟩ = some (.int .i64 (Drl.nd st.ar (Drl.top st)).at_) := cell_of hnode rfl
  clear hat hfrom hne hp hnode
  unfold nptr at *
  by_cases ht : Drl.top st = 0
  · rw [ht] at hpt hct
    have hq : ∀ n, (binOp .neq 50 (.pointer (some ⟨ad 0, 0, none⟩)) (.pointer (some ⟨ad 0, 0, none⟩))).run Tryz.prog (wr.drewN n) = .ok (.bool false) (wr.drewN n) := fun n => neq_same _ _
    go_wp2_with fail
    go_quiet (fail)
    go_wp2_with fail
    go_ret2
    refine ⟨below_drewN HAT.out.keep _, ?_⟩
    have : Drl.readFrom Drl.st0 ls = .ok st := by rw [← HF.out]; simp [Drl.readFrom, ht]
    rw [this]
    exact ⟨Rb, Mb, _, ad, wv, bv, rfl, HAT.out.mem.next (below_drewN (Below.refl _ _) _), HAT.out.inv⟩
  · have hadn : ad (Drl.top st) ≠ ad 0 := fun e => ht (HAT.out.mem.nodes.inj _ _ HAT.out.inv.top_lt HAT.out.inv.pos e)
    have hq : ∀ n, (binOp .neq 50 (.pointer (some ⟨ad (Drl.top st), 0, none⟩)) (.pointer (some ⟨ad 0, 0, none⟩))).run Tryz.prog (wr.drewN n) = .ok (.bool true) (wr.drewN n) := fun n =>
      neq_other _ (fun e => hadn (by injection e)) (HAT.out.mem.nodes.node _ HAT.out.inv.top_lt) (HAT.out.mem.nodes.node _ HAT.out.inv.pos)
    go_wp2_with fail
    go_quiet (fail)
    go_wp2_with fail
    refine (wrap_any _ _ _).mono ?_
    rintro e w' ⟨rfl, rfl⟩
    go_wp2_with fail
    go_ret2
    have hb : Below wr.heap.size wr ((wr.drewN nq).alloc (.cells #[.int .i64 (Drl.nd st.ar (Drl.top st)).at_, .iface 33 (.int .i64 290)] 79)) := (below_drewN (Below.refl _ _) _).alloc (Nat.le_refl _) _
    refine ⟨HAT.out.keep.trans (hb.mono HAT.out.keep.size), ?_⟩
    have : Drl.readFrom Drl.st0 ls = .error ((Drl.nd st.ar (Drl.top st)).at_, 290) := by rw [← HF.out]; simp [Drl.readFrom, ht]
    rw [this]
    exact ⟨_, rfl, _, rfl, heap_new _ _⟩
end Go.Proofs.YtfbmlnkgjgnnhaaGreatDoor
