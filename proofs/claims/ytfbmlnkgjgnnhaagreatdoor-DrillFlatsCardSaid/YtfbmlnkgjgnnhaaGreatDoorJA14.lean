import Derived.Test.YtfbmlnkgjgnnhaaGreatDoorJK2
import Derived.BigQuiet
import Derived.StillTailTactics
import Derived.Deep.AppendLies

section
namespace Go.Proofs.YtfbmlnkgjgnnhaaGreatDoor
open Go.RowKit

set_option maxRecDepth 100000
set_option maxHeartbeats 1000000

/-- the list of what is open, in cells -/
theorem RMem.ov {w : World} {B Rb Mb : Nat} {ov : Value} {ad : Nat → Nat} {wv bv : Nat → Value} {st : Drl.RSt} (h : RMem w B Rb Mb ov ad wv bv st) (hne : st.opn ≠ []) :
    ∃ g cap, ov = .slice (some ⟨g, 0, none⟩) st.opn.length cap ∧ st.opn.length ≤ cap ∧ ∀ i (hi : i < st.opn.length), w.cell? ⟨g, i, none⟩ = some (nptr ad st.opn[i]) := by
  rcases h.opn.2 with ⟨_, h0⟩ | ⟨g, cap, cur, hv, hb, hh, hn, _, _, _⟩
  · exact absurd (List.eq_nil_of_length_eq_zero h0) hne
  · refine ⟨g, cap, hv, hn, fun i hi => ?_⟩
    have := h.opn.cells (g := g) (by rw [hv]; rfl) i (nptr ad st.opn[i]) (by simp [hi])
    have hadd : (⟨g, 0, none⟩ : Addr).add i = ⟨g, i, none⟩ := by unfold Addr.add; split <;> simp_all
    rw [hadd] at this
    exact this
theorem top_ptr {st : Drl.RSt} (hne : st.opn ≠ []) : ∃ h : st.opn.length - 1 < st.opn.length, st.opn[st.opn.length - 1] = Drl.top st := by
  have hl := List.length_pos_iff.2 hne
  refine ⟨by omega, ?_⟩
  have := Drl.top_at hne
  rw [List.getElem?_eq_getElem (by omega)] at this
  exact Option.some.inj this

theorem read_pass0 (w : World) (ao : Option Addr) (cap : Nat) (ls : List Drl.Ln) (a : Act) (wr : World) (m : Nat) (r0 : Code) (hr : findLabel readScope 0 = some r0) (hJ : JDone w ao cap ls a wr) (hl : ls.length ≤ 65536) : r0.wp Tryz.prog (PassPost w ao cap ls m) a wr := by
  have e := hr.symm.trans (rfl : findLabel readScope 0 = some _)
  obtain rfl := Option.some.inj e
  clear hr e
  obtain ⟨Rb, Mb, ov, ad, wv, bv, st, v6, v7, v8, ⟨u, rfl⟩, hat, hfrom⟩ := hJ
  have hne := hat.inv.ne
  obtain ⟨g, c, rfl, hc, hp⟩ := hat.mem.ov hne
  obtain ⟨t1, t2⟩ := top_ptr hne
  have hpt := hp _ t1
  rw [t2] at hpt
  have hol := hat.olen
  have hf : wr.cell? ⟨Rb, 0, none⟩ = some (.slice (some ⟨g, 0, none⟩) st.opn.length c) := cell_of hat.mem.rd rfl
  have HAT := Lib.hid hat
  have HF := Lib.hid hfrom
  have HNE := Lib.hid hne
  have hl1 : (1 : Int) ≤ (st.opn.length : Int) := by omega
  have hnode := hat.mem.nodes.node _ hat.inv.top_lt
  have hct : wr.cell? ⟨ad (Drl.top st), 0, none⟩ = some (.int .i64 (Drl.nd st.ar (Drl.top st)).at_) := cell_of hnode rfl
  clear hat hfrom hne hp hnode
  unfold nptr at *
  by_cases ht : Drl.top st = 0
  · rw [ht] at hpt hct
    have hq : ∀ n, (binOp .neq 50 (.pointer (some ⟨ad 0, 0, none⟩)) (.pointer (some ⟨ad 0, 0, none⟩))).run Tryz.prog (wr.drewN n) = .ok (.bool false) (wr.drewN n) := fun n => neq_same _ _
    go_wp2_with fail
    go_quiet (fail)
    go_wp2_with fail
    go_ret2
    refine ⟨below_drewN HAT.out.keep _, ?_⟩
    have : Drl.readFrom Drl.st0 ls = .ok st := by rw [← HF.out]; simp [Drl.readFrom, ht]
    rw [this]
    exact ⟨Rb, Mb, _, ad, wv, bv, rfl, HAT.out.mem.next (below_drewN (Below.refl _ _) _), HAT.out.inv⟩
  · have hadn : ad (Drl.top st) ≠ ad 0 := fun e => ht (HAT.out.mem.nodes.inj _ _ HAT.out.inv.top_lt HAT.out.inv.pos e)
    have hq : ∀ n, (binOp .neq 50 (.pointer (some ⟨ad (Drl.top st), 0, none⟩)) (.pointer (some ⟨ad 0, 0, none⟩))).run Tryz.prog (wr.drewN n) = .ok (.bool true) (wr.drewN n) := fun n =>
      neq_other _ (fun e => hadn (by injection e)) (HAT.out.mem.nodes.node _ HAT.out.inv.top_lt) (HAT.out.mem.nodes.node _ HAT.out.inv.pos)
    go_wp2_with fail
    go_quiet (fail)
    go_wp2_with fail
    refine (wrap_any _ _ _).mono ?_
    rintro e w' ⟨rfl, rfl⟩
    go_wp2_with fail
    go_ret2
    have hb : Below wr.heap.size wr ((wr.drewN nq).alloc (.cells #[.int .i64 (Drl.nd st.ar (Drl.top st)).at_, .iface 33 (.int .i64 290)] 79)) := (below_drewN (Below.refl _ _) _).alloc (Nat.le_refl _) _
    refine ⟨HAT.out.keep.trans (hb.mono HAT.out.keep.size), ?_⟩
    have : Drl.readFrom Drl.st0 ls = .error ((Drl.nd st.ar (Drl.top st)).at_, 290) := by rw [← HF.out]; simp [Drl.readFrom, ht]
    rw [this]
    exact ⟨_, rfl, _, rfl, heap_new _ _⟩
end Go.Proofs.YtfbmlnkgjgnnhaaGreatDoor
end

section
namespace Go.Proofs.YtfbmlnkgjgnnhaaGreatDoor
open Go.RowKit

set_option maxRecDepth 100000
set_option maxHeartbeats 1000000

theorem read_pass2 (w : World) (ao : Option Addr) (cap : Nat) (ls : List Drl.Ln) (a : Act) (wr : World) (r2 : Code) (hr : findLabel readScope 2 = some r2) (hJ : JEnd w ao cap ls a wr) (hl : ls.length ≤ 65536)
    (hsm : ∀ x ∈ ls, 1 ≤ x.ws.length ∧ ∀ t ∈ x.ws, t.length ≤ 65536) : r2.wp Tryz.prog (PassPost w ao cap ls (mu ls 2 a wr)) a wr := by
  have e := hr.symm.trans (rfl : findLabel readScope 2 = some _)
  obtain rfl := Option.some.inj e
  clear hr e
  obtain ⟨k, Rb, Mb, ov, ad, wv, bv, st, nb, b, x, ⟨u, rfl⟩, hat, hfrom, hx, hend, hnew⟩ := hJ
  have hkl : k < ls.length := (List.getElem?_eq_some_iff.1 hx).1
  have hne := hat.inv.ne
  obtain ⟨g, c, rfl, hc, _⟩ := hat.mem.ov hne
  have hop := List.length_pos_iff.2 hne
  have hol := hat.olen
  have hm : ∀ t : Nat, t = 2 * (ls.length + 1 - (k + 1)) → t < mu ls 2 { tmps := #[.slice ao ls.length cap, undef, .pointer none, .nilIface, nptr ad 0, .pointer (some ⟨Rb, 0, none⟩), .int .i64 ((k + 1 : Nat) : Int), .pointer (some ⟨nb, 0, none⟩), nptr ad (Drl.top st), u 9, u 10, u 11, u 12, u 13, u 14, u 15, u 16, u 17, u 18, u 19, u 20, u 21, u 22, u 23, u 24, u 25, u 26, u 27, u 28, u 29, u 30, u 31, u 32, u 33, u 34, u 35, u 36, u 37, u 38, u 39, u 40, u 41, u 42, u 43, u 44, u 45, u 46, u 47, u 48, u 49, u 50, u 51, u 52, u 53, u 54, u 55, u 56, u 57, u 58, u 59, u 60, u 61, u 62, u 63, u 64, u 65, u 66, u 67, u 68, u 69, u 70, u 71, u 72, u 73, u 74, u 75, u 76, u 77, u 78, u 79, u 80, u 81, u 82, u 83, u 84, u 85, u 86, u 87, u 88, u 89, u 90, u 91, u 92, u 93, u 94, u 95, u 96, u 97, u 98, u 99, u 100, u 101, u 102, u 103, u 104, u 105, u 106, u 107, u 108, u 109, u 110, u 111, u 112, u 113, u 114, u 115, u 116, u 117, u 118, u 119, u 120, u 121, u 122, u 123, u 124, u 125, u 126, u 127, u 128, u 129, u 130, u 131, u 132, u 133, u 134, u 135, u 136, u 137, u 138, u 139, u 140, u 141, u 142, u 143, u 144, u 145, u 146, u 147, u 148, u 149, u 150, u 151, u 152, u 153, u 154, u 155, u 156, u 157, u 158, u 159, u 160, u 161, u 162, u 163, u 164, u 165, u 166, u 167, u 168, u 169, u 170, u 171, u 172, u 173, u 174, u 175, u 176, u 177, u 178, u 179, u 180, u 181, u 182, u 183, u 184, u 185, u 186, u 187, u 188, u 189, u 190, u 191, u 192, u 193, u 194, u 195, u 196, u 197, u 198, u 199, u 200, u 201, u 202, u 203, u 204, u 205, u 206, u 207], defers := [] } wr := fun t ht => by
    have : mu ls 2 { tmps := #[.slice ao ls.length cap, undef, .pointer none, .nilIface, nptr ad 0, .pointer (some ⟨Rb, 0, none⟩), .int .i64 ((k + 1 : Nat) : Int), .pointer (some ⟨nb, 0, none⟩), nptr ad (Drl.top st), u 9, u 10, u 11, u 12, u 13, u 14, u 15, u 16, u 17, u 18, u 19, u 20, u 21, u 22, u 23, u 24, u 25, u 26, u 27, u 28, u 29, u 30, u 31, u 32, u 33, u 34, u 35, u 36, u 37, u 38, u 39, u 40, u 41, u 42, u 43, u 44, u 45, u 46, u 47, u 48, u 49, u 50, u 51, u 52, u 53, u 54, u 55, u 56, u 57, u 58, u 59, u 60, u 61, u 62, u 63, u 64, u 65, u 66, u 67, u 68, u 69, u 70, u 71, u 72, u 73, u 74, u 75, u 76, u 77, u 78, u 79, u 80, u 81, u 82, u 83, u 84, u 85, u 86, u 87, u 88, u 89, u 90, u 91, u 92, u 93, u 94, u 95, u 96, u 97, u 98, u 99, u 100, u 101, u 102, u 103, u 104, u 105, u 106, u 107, u 108, u 109, u 110, u 111, u 112, u 113, u 114, u 115, u 116, u 117, u 118, u 119, u 120, u 121, u 122, u 123, u 124, u 125, u 126, u 127, u 128, u 129, u 130, u 131, u 132, u 133, u 134, u 135, u 136, u 137, u 138, u 139, u 140, u 141, u 142, u 143, u 144, u 145, u 146, u 147, u 148, u 149, u 150, u 151, u 152, u 153, u 154, u 155, u 156, u 157, u 158, u 159, u 160, u 161, u 162, u 163, u 164, u 165, u 166, u 167, u 168, u 169, u 170, u 171, u 172, u 173, u 174, u 175, u 176, u 177, u 178, u 179, u 180, u 181, u 182, u 183, u 184, u 185, u 186, u 187, u 188, u 189, u 190, u 191, u 192, u 193, u 194, u 195, u 196, u 197, u 198, u 199, u 200, u 201, u 202, u 203, u 204, u 205, u 206, u 207], defers := [] } wr = 2 * (ls.length + 1 - (k + 1)) + 1 := rfl
    omega
  generalize mu ls 2 { tmps := #[.slice ao ls.length cap, undef, .pointer none, .nilIface, nptr ad 0, .pointer (some ⟨Rb, 0, none⟩), .int .i64 ((k + 1 : Nat) : Int), .pointer (some ⟨nb, 0, none⟩), nptr ad (Drl.top st), u 9, u 10, u 11, u 12, u 13, u 14, u 15, u 16, u 17, u 18, u 19, u 20, u 21, u 22, u 23, u 24, u 25, u 26, u 27, u 28, u 29, u 30, u 31, u 32, u 33, u 34, u 35, u 36, u 37, u 38, u 39, u 40, u 41, u 42, u 43, u 44, u 45, u 46, u 47, u 48, u 49, u 50, u 51, u 52, u 53, u 54, u 55, u 56, u 57, u 58, u 59, u 60, u 61, u 62, u 63, u 64, u 65, u 66, u 67, u 68, u 69, u 70, u 71, u 72, u 73, u 74, u 75, u 76, u 77, u 78, u 79, u 80, u 81, u 82, u 83, u 84, u 85, u 86, u 87, u 88, u 89, u 90, u 91, u 92, u 93, u 94, u 95, u 96, u 97, u 98, u 99, u 100, u 101, u 102, u 103, u 104, u 105, u 106, u 107, u 108, u 109, u 110, u 111, u 112, u 113, u 114, u 115, u 116, u 117, u 118, u 119, u 120, u 121, u 122, u 123, u 124, u 125, u 126, u 127, u 128, u 129, u 130, u 131, u 132, u 133, u 134, u 135, u 136, u 137, u 138, u 139, u 140, u 141, u 142, u 143, u 144, u 145, u 146, u 147, u 148, u 149, u 150, u 151, u 152, u 153, u 154, u 155, u 156, u 157, u 158, u 159, u 160, u 161, u 162, u 163, u 164, u 165, u 166, u 167, u 168, u 169, u 170, u 171, u 172, u 173, u 174, u 175, u 176, u 177, u 178, u 179, u 180, u 181, u 182, u 183, u 184, u 185, u 186, u 187, u 188, u 189, u 190, u 191, u 192, u 193, u 194, u 195, u 196, u 197, u 198, u 199, u 200, u 201, u 202, u 203, u 204, u 205, u 206, u 207], defers := [] } wr = m at hm ⊢
  have HX := Lib.hid hx
  have HM := Lib.hid hm
  have HN := Lib.hid hnew
  have HE := Lib.hid hend
  have HF := Lib.hid hfrom
  have hP := hat.push hx (hsm _ (List.mem_of_getElem? hx)) hnew
  have HP := Lib.hid hP
  have HAT := Lib.hid hat
  have hpos := hat.inv.pos
  have htl := hat.inv.top_lt
  have htn : wr.heap[ad (Drl.top st)]? = _ := hat.mem.nodes.node _ htl
  clear hx hm hend hfrom hP hat
  unfold nptr
  by_cases ht : Drl.top st = 0
  · have hq : ∀ v, (binOp .eql 50 (.pointer (some ⟨v, 0, none⟩)) (.pointer (some ⟨v, 0, none⟩))).run Tryz.prog wr = .ok (.bool true) wr := fun v => eql_same _ _
    have hct : wr.cell? ⟨nb, 0, none⟩ = some (.int .i64 x.at_) := cell_of hnew.cells rfl
    rw [ht]
    clear hnew htn
    go_wp2_with fail
    refine (wrap_any _ _ _).mono ?_
    rintro e w' ⟨rfl, rfl⟩
    go_wp2_with fail
    go_ret2
    have hb : Below wr.heap.size wr (wr.alloc (.cells #[.int .i64 x.at_, .iface 33 (.int .i64 290)] 79)) := (Below.refl _ _).alloc (Nat.le_refl _) _
    refine ⟨HAT.out.keep.trans (hb.mono HAT.out.keep.size), ?_⟩
    have : Drl.readFrom Drl.st0 ls = .error (x.at_, 290) := step_stop HX.out (by simp [Drl.readStep, HE.out, ht]) HF.out
    rw [this]
    exact ⟨_, rfl, _, rfl, heap_new _ _⟩
  · have hadn : ad (Drl.top st) ≠ ad 0 := fun e => ht (HAT.out.mem.nodes.inj _ _ htl hpos e)
    have hq : (binOp .eql 50 (.pointer (some ⟨ad (Drl.top st), 0, none⟩)) (.pointer (some ⟨ad 0, 0, none⟩))).run Tryz.prog wr = .ok (.bool false) wr :=
      eql_other _ (fun e => hadn (by injection e)) htn (HAT.out.mem.nodes.node _ hpos)
    obtain ⟨hw1, hw2⟩ := HAT.out.inv.ws _ (Nat.pos_of_ne_zero ht) htl
    obtain ⟨bt, hvt, hbt⟩ : ∃ bt, wv (Drl.top st) = .slice (some ⟨bt, 0, none⟩) (Drl.nd st.ar (Drl.top st)).ws.length (Drl.nd st.ar (Drl.top st)).ws.length ∧ WordsIn wr bt (Drl.nd st.ar (Drl.top st)).ws := by
      rcases HAT.out.mem.nodes.words _ htl with ⟨h0, _⟩ | ⟨b, h1, h2⟩
      · rw [h0] at hw1; simp at hw1
      · exact ⟨b, h1, h2⟩
    rw [hvt] at htn
    have c2 : wr.cell? ⟨ad (Drl.top st), 2, none⟩ = some (.slice (some ⟨bt, 0, none⟩) (Drl.nd st.ar (Drl.top st)).ws.length (Drl.nd st.ar (Drl.top st)).ws.length) := cell_of htn rfl
    obtain ⟨s0, hs0, hc0⟩ := hbt.str 0 hw1
    have hw1' : (0 : Int) < ((Drl.nd st.ar (Drl.top st)).ws.length : Int) := by omega
    have HBT := Lib.hid hbt
    have HTN := Lib.hid htn
    have HT := Lib.hid ht
    clear hnew htn hbt ht
    by_cases hd : Drl.wd (Drl.nd st.ar (Drl.top st)).ws 0 = Drl.wDef
    · obtain ⟨hd1, hd2⟩ := HAT.out.inv.defs _ HAT.out.inv.top_mem HT.out hd
      have e0 := eq_yes hs0 hd
      unfold Drl.wDef at e0
      have HD := Lib.hid hd
      have HS0 := Lib.hid hs0
      clear hd hs0
      have i1 : 1 < (Drl.nd st.ar (Drl.top st)).ws.length := by omega
      have i1' : (1 : Int) < ((Drl.nd st.ar (Drl.top st)).ws.length : Int) := by omega
      obtain ⟨s1, hs1, hc1⟩ := HBT.out.str 1 i1
      have cm : wr.cell? ⟨Rb, 1, none⟩ = some (.map (some Mb)) := cell_of HAT.out.mem.rd rfl
      go_wp2_with fail
      go_still_tail 12, (by kernel_rfl)
      change wpList _ _ _ _ _ wr.drew
      have hP3 := HP.out.next (below_drew (Below.refl _ wr))
      clear hc0 hc1 c2 cm hq
      generalize wr.drew = w3 at hP3 ⊢
      obtain ⟨w4, hu, hm4, hb4⟩ := hP3.mem.name s1 (Drl.top st) (by rw [hs1]; exact hd2)
      rw [nptr_set htl] at hu
      have HK := Lib.hid (hP3.keep.trans hb4)
      have HS1 := Lib.hid hs1
      clear hP3 hb4 hs1
      have cf : w4.cell? ⟨Rb, 0, none⟩ = some (.slice (some ⟨g, 0, none⟩) st.opn.length c) := cell_of hm4.rd rfl
      have HM4 := Lib.hid hm4
      clear hm4
      have n1 : (1 : Int) ≤ (st.opn.length : Int) := by omega
      have n2 : (st.opn.length : Int) - 1 ≤ (c : Int) := by omega
      have n3 : IntKind.i64.wrap ((st.opn.length : Int) - 1) = (st.opn.length : Int) - 1 := IntWalk.i64_in _ (by omega)
      have n4 : ((st.opn.length : Int) - 1).toNat = st.opn.length - 1 := by omega
      go_wp2_with fail
      go_still_tail 14, (by kernel_rfl)
      change wpList _ _ _ _ _ w4.drew
      have hM5 := HM4.out.next (below_drew (Below.refl _ w4))
      have HK5 := Lib.hid (below_drew HK.out)
      clear hu cf
      generalize w4.drew = w5 at hM5 HK5 ⊢
      have cz : w5.frozen? ⟨Rb, 0, none⟩ = false := free_of hM5.rd 0
      have cf : w5.cell? ⟨Rb, 0, none⟩ = some (.slice (some ⟨g, 0, none⟩) st.opn.length c) := cell_of hM5.rd rfl
      have HM5 := Lib.hid hM5
      clear hM5
      go_wp2_with fail
      go_step3
      refine And.intro ?_ (HM.out _ rfl)
      obtain ⟨hpop, hbp⟩ := HM5.out.pop (by exact HAT.out.inv.ne) rfl
      have hInv := HP.out.inv
      have htop : Drl.top { st with ar := st.ar ++ [newNd x] } = Drl.top st := rfl
      have hs : Drl.readStep st x = .ok { ar := st.ar ++ [newNd x], opn := st.opn.dropLast, names := st.names ++ [(s1.data.toList, Drl.top st)] } := by simp [Drl.readStep, HE.out, HT.out, HD.out, newNd, HS1.out]
      refine JNext.mk_ (k := k + 1) (nptr_set0 hpos) (by simp) Fr.intro ⟨HP.out.hk, hpop, ?_, HK5.out.trans hbp, HP.out.alen, ?_, HP.out.blen⟩ (step_next HX.out hs HF.out)
      · refine hInv.close (by rw [htop]; exact HT.out) _ ?_
        rw [htop, Drl.nd_append htl, if_pos HD.out]; rw [HS1.out]
      · have := HP.out.olen
        simp only [List.length_dropLast] at this ⊢
        omega
    · have e0 := eq_no hs0 hd
      unfold Drl.wDef at e0
      have HD := Lib.hid hd
      clear hd hs0
      have cf : wr.cell? ⟨Rb, 0, none⟩ = some (.slice (some ⟨g, 0, none⟩) st.opn.length c) := cell_of HAT.out.mem.rd rfl
      have n1 : (1 : Int) ≤ (st.opn.length : Int) := by omega
      have n2 : (st.opn.length : Int) - 1 ≤ (c : Int) := by omega
      have n3 : IntKind.i64.wrap ((st.opn.length : Int) - 1) = (st.opn.length : Int) - 1 := IntWalk.i64_in _ (by omega)
      have n4 : ((st.opn.length : Int) - 1).toNat = st.opn.length - 1 := by omega
      go_wp2_with fail
      go_still_tail 14, (by kernel_rfl)
      change wpList _ _ _ _ _ wr.drew
      have hP5 := HP.out.next (below_drew (Below.refl _ wr))
      clear hc0 c2 cf hq
      generalize wr.drew = w5 at hP5 ⊢
      have cz : w5.frozen? ⟨Rb, 0, none⟩ = false := free_of hP5.mem.rd 0
      have cf : w5.cell? ⟨Rb, 0, none⟩ = some (.slice (some ⟨g, 0, none⟩) st.opn.length c) := cell_of hP5.mem.rd rfl
      have HP5 := Lib.hid hP5
      clear hP5
      go_wp2_with fail
      go_step3
      refine And.intro ?_ (HM.out _ rfl)
      obtain ⟨hpop, hbp⟩ := HP5.out.mem.pop (by exact HAT.out.inv.ne) rfl
      have hInv := HP.out.inv
      have htop : Drl.top { st with ar := st.ar ++ [newNd x] } = Drl.top st := rfl
      have hs : Drl.readStep st x = .ok { ar := st.ar ++ [newNd x], opn := st.opn.dropLast, names := st.names } := by simp [Drl.readStep, HE.out, HT.out, HD.out, newNd]
      refine JNext.mk_ (k := k + 1) (nptr_set0 hpos) (by simp) Fr.intro ⟨HP.out.hk, hpop, ?_, HP5.out.keep.trans hbp, HP.out.alen, ?_, HP.out.blen⟩ (step_next HX.out hs HF.out)
      · refine hInv.close (by rw [htop]; exact HT.out) _ ?_
        rw [htop, Drl.nd_append htl, if_neg HD.out]
      · have := HP.out.olen
        simp only [List.length_dropLast] at this ⊢
        omega
end Go.Proofs.YtfbmlnkgjgnnhaaGreatDoor
end

section
namespace Go.Proofs.YtfbmlnkgjgnnhaaGreatDoor
open Go.RowKit

theorem wrongE_for {st : Drl.RSt} {x : Drl.Ln} (h : Drl.wrongE st x = 0) (q : Drl.wd x.ws 0 = Drl.wFor) : x.ws.length = 4 ∧ Drl.letterB (Drl.wd x.ws 1) = true := by
  unfold Drl.wrongE at h
  rw [if_neg (by rw [q]; decide), if_neg (by rw [q]; decide), if_pos q] at h
  split at h
  · cases h
  · next hn =>
    simp only [Bool.or_eq_true, not_or, Bool.not_eq_true', decide_eq_true_eq, Decidable.not_not, Bool.not_eq_true] at hn
    exact ⟨hn.1.1, by simpa using hn.1.2⟩
theorem wrongE_use {st : Drl.RSt} {x : Drl.Ln} (h : Drl.wrongE st x = 0) (q : Drl.wd x.ws 0 = Drl.wUse) : x.ws.length = 2 ∧ ∃ i, Drl.look st.names (Drl.wd x.ws 1) = some i := by
  unfold Drl.wrongE at h
  rw [if_neg (by rw [q]; decide), if_neg (by rw [q]; decide), if_neg (by rw [q]; decide), if_pos q] at h
  split at h
  · cases h
  · next hn =>
    simp only [Bool.or_eq_true, not_or, decide_eq_true_eq, Decidable.not_not] at hn
    refine ⟨hn.1, ?_⟩
    cases e : Drl.look st.names (Drl.wd x.ws 1) with
    | none => rw [e] at hn; simp at hn
    | some i => exact ⟨i, rfl⟩
theorem look_lt {names : List (Drl.Str × Nat)} {n i : Nat} {s : Drl.Str} (h : ∀ p ∈ names, p.2 < n) (hi : Drl.look names s = some i) : i < n := by
  unfold Drl.look at hi
  obtain ⟨p, hp, rfl⟩ := Option.map_eq_some_iff.1 hi
  exact h p (List.mem_of_find?_eq_some hp)

/-- an append of which the run is known -/
theorem wpList_append_run {P : Program} {w : World} {ops : Array Oper} {rest : List Oper} {o : Oper} {a : Act} {Q : Exit → Act → World → Prop} (hgd : o.guard = none) (s x : Operand) (t : TypeId)
    (ho : o.op = .call { callee := .builtin .append, args := #[s, x], argTypes := #[t, t] }) {v xv r : Value} {w' : World} (hs : a.eval s = v) (hx : a.eval x = xv)
    (hr : (Builtin.append_ #[t, t] o.type #[v, xv]).run P w = .ok r w') (h : wpList P ops Q rest (a.put o.dst r) w') : wpList P ops Q (o :: rest) a w :=
  wpList_plain hgd fun K hK => by
    unfold Oper.wp execOp
    simp only [ho, resolve, invoke, builtin, Sem.run_bind, Sem.run_pure, Result.andThen_ok, List.map_toArray, List.map_cons, List.map_nil, hs, hx, hr]
    exact hK _ _ h

theorem wpList_append_at {P : Program} {w : World} {ops : Array Oper} {rest : List Oper} {o : Oper} {a : Act} {Q : Exit → Act → World → Prop} (hgd : o.guard = none) (s x : Operand) (t : TypeId)
    (ho : o.op = .call { callee := .builtin .append, args := #[s, x], argTypes := #[t, t] }) (h : ∃ r w', (Builtin.append_ #[t, t] o.type #[a.eval s, a.eval x]).run P w = .ok r w' ∧ wpList P ops Q rest (a.put o.dst r) w') : wpList P ops Q (o :: rest) a w := by
  obtain ⟨r, w', h1, h2⟩ := h
  exact wpList_append_run hgd s x t ho rfl rfl h1 h2

theorem info_pNode : (Tryz.prog.info? 50).map (fun i => (i.zero, i.size, i.bytes)) = some (some (.pointer none), 1, 8) := by kernel_rfl

theorem At.body {w W w1 : World} {ls : List Drl.Ln} {k Rb Mb : Nat} {ov : Value} {ad : Nat → Nat} {wv bv : Nat → Value} {st : Drl.RSt} (h : At w ls (k + 1) Rb Mb ov ad wv bv st W) (i n : Nat) (hi : i < st.ar.length) (hn : n < st.ar.length)
    (hbl : (Drl.nd st.ar i).body.length ≤ k) (v : Value) (hg : W.grownBy w1 (bv i).ownBlock) (hown : w1.ownsRow w.heap.size 50 1 v ((Drl.nd st.ar i).body.length + 1) ((Drl.nd st.ar i).body.map (nptr ad) ++ [nptr ad n]))
    (g : Nat) (hv : v.ownBlock = some g) (hat : (bv i).ownBlock = some g ∨ W.heap.size ≤ g) :
    At w ls (k + 1) Rb Mb ov ad wv (setF bv i v) { st with ar := Drl.addTo st.ar i n } (w1.setCell ⟨ad i, 4, none⟩ v) := by
  obtain ⟨h1, h2⟩ := h.mem.addBody i n hi v hg hown g hv hat
  refine ⟨h.hk, h1, h.inv.add i n hn, h.keep.trans h2, by rw [Drl.addTo_len]; exact h.alen, h.olen, fun j hj => ?_⟩
  rw [Drl.addTo_len] at hj
  rw [Drl.nd_addTo hj]
  by_cases e : j = i
  · subst e; rw [if_pos rfl]; simp; exact hbl
  · rw [if_neg e]; exact h.blen j hj

theorem At.open_ {w W w1 : World} {ls : List Drl.Ln} {k Rb Mb : Nat} {ov : Value} {ad : Nat → Nat} {wv bv : Nat → Value} {st : Drl.RSt} (h : At w ls (k + 1) Rb Mb ov ad wv bv st W) (n : Nat) (hn : n < st.ar.length) (h0 : n ≠ 0)
    (hd : Drl.wd (Drl.nd st.ar n).ws 0 = Drl.wDef → st.opn.length ≤ 1 ∧ (Drl.nd st.ar n).ws.length = 2 ∧ Drl.look st.names (Drl.wd (Drl.nd st.ar n).ws 1) = none)
    (hol : st.opn.length ≤ k + 1) (v : Value) (hg : W.grownBy w1 ov.ownBlock) (hown : w1.ownsRow w.heap.size 50 1 v (st.opn.length + 1) (st.opn.map (nptr ad) ++ [nptr ad n]))
    (g : Nat) (hv : v.ownBlock = some g) (hat : ov.ownBlock = some g ∨ W.heap.size ≤ g) :
    At w ls (k + 1) Rb Mb v ad wv bv { st with opn := st.opn ++ [n] } (w1.setCell ⟨Rb, 0, none⟩ v) := by
  obtain ⟨h1, h2⟩ := h.mem.addOpen n v hg hown g hv hat
  exact ⟨h.hk, h1, h.inv.open_ n hn h0 hd, h.keep.trans h2, h.alen, by simp; omega, h.blen⟩

theorem _root_.Drl.Inv.setLast {ar : List Drl.Nd} {x x' : Drl.Nd} {opn : List Nat} {names : List (Drl.Str × Nat)} (h : Drl.Inv ⟨ar ++ [x], opn, names⟩) (hw : x'.ws = x.ws) (hb : x'.body = x.body) (hu : ∀ d, x'.use = some d → d < (ar ++ [x]).length) : Drl.Inv ⟨ar ++ [x'], opn, names⟩ := by
  have hlen : (ar ++ [x']).length = (ar ++ [x]).length := by simp
  have hL : ar.length < (ar ++ [x]).length := by simp
  have hnd : ∀ i, i < (ar ++ [x]).length → (i = ar.length ∧ Drl.nd (ar ++ [x']) i = x' ∧ Drl.nd (ar ++ [x]) i = x) ∨ (Drl.nd (ar ++ [x']) i = Drl.nd (ar ++ [x]) i) := fun i hi => by
    by_cases e : i = ar.length
    · subst e; exact .inl ⟨rfl, Drl.nd_last _ _, Drl.nd_last _ _⟩
    · have : i < ar.length := by simp at hi; omega
      exact .inr (by rw [Drl.nd_append this, Drl.nd_append this])
  have hws : ∀ i, i < (ar ++ [x]).length → (Drl.nd (ar ++ [x']) i).ws = (Drl.nd (ar ++ [x]) i).ws := fun i hi => by
    rcases hnd i hi with ⟨_, e1, e2⟩ | e
    · rw [e1, e2, hw]
    · rw [e]
  refine ⟨h.opn0, fun i hi => by rw [hlen]; exact h.opnlt i hi, ?_, ?_, ?_, fun p hp => by rw [hlen]; exact h.namelt p hp, ?_, ?_⟩
  · intro i h0 hi
    rw [hlen] at hi
    rw [hws i hi]; exact h.ws i h0 hi
  · intro i hi k hk
    rw [hlen] at hi ⊢
    rcases hnd i hi with ⟨_, e1, e2⟩ | e
    · rw [e1, hb, ← e2] at hk; exact h.bodylt i hi k hk
    · rw [e] at hk; exact h.bodylt i hi k hk
  · intro i hi d hd
    rw [hlen] at hi ⊢
    rcases hnd i hi with ⟨_, e1, e2⟩ | e
    · rw [e1] at hd; exact hu d hd
    · rw [e] at hd; exact h.uselt i hi d hd
  · intro i hi h0 hd
    have hlt := h.opnlt i hi
    rw [hws i hlt] at hd ⊢
    exact h.defs i hi h0 hd
  · intro k hk i hi
    have hlt := h.opnlt i (List.mem_of_getElem? hi)
    rw [hws i hlt]
    exact h.defpos k hk i hi

theorem At.setLast {w W : World} {ls : List Drl.Ln} {k Rb Mb : Nat} {ov : Value} {ad : Nat → Nat} {wv bv : Nat → Value} {ar : List Drl.Nd} {x : Drl.Nd} {opn : List Nat} {names : List (Drl.Str × Nat)} (h : At w ls k Rb Mb ov ad wv bv ⟨ar ++ [x], opn, names⟩ W)
    (j : Nat) (v : Value) (x' : Drl.Nd) (hc : ∀ a b, (nodeCells ad a b x).setIfInBounds j v = nodeCells ad a b x') (hw : x'.ws = x.ws) (hb : x'.body = x.body) (hu : ∀ d, x'.use = some d → d < (ar ++ [x]).length) :
    At w ls k Rb Mb ov ad wv bv ⟨ar ++ [x'], opn, names⟩ (W.setCell ⟨ad ar.length, j, none⟩ v) := by
  obtain ⟨h1, h2⟩ := h.mem.setLast j v x' hc hw hb
  refine ⟨h.hk, h1, h.inv.setLast hw hb hu, h.keep.trans h2, by have := h.alen; simpa using this, h.olen, fun i hi => ?_⟩
  have hi' : i < (ar ++ [x]).length := by simpa using hi
  by_cases e : i = ar.length
  · subst e
    have := h.blen _ hi'
    simp only [Drl.nd_last] at this ⊢
    rw [hb]; exact this
  · have e2 : i < ar.length := by simp at hi; omega
    have := h.blen i hi'
    simp only [Drl.nd_append e2] at this ⊢
    exact this

theorem append_ptr {W : World} {base : Nat} {v : Value} {n : Nat} {xs : List Value} (hown : W.ownsRow base 50 1 v n xs) (p : Value) (hp : p.oneCell' = true) (hn : n ≤ 70000) (hB : base ≤ W.heap.size) :
    ∃ g cap w1, (Builtin.append_ #[60, 60] 60 #[v, .slice (some ⟨W.heap.size, 0, none⟩) 1 1]).run Tryz.prog (W.alloc (.cells #[p] 50)) = .ok (.slice (some ⟨g, 0, none⟩) (n + 1) cap) w1 ∧
      w1.ownsRow base 50 1 (.slice (some ⟨g, 0, none⟩) (n + 1) cap) (n + 1) (xs ++ [p]) ∧ (W.alloc (.cells #[p] 50)).grownBy w1 v.ownBlock ∧ (v.ownBlock = some g ∨ (W.alloc (.cells #[p] 50)).heap.size ≤ g) := by
  obtain ⟨i0, hi, hz0, hz1, hz2⟩ := info_parts info_pNode
  obtain ⟨g, cap, w1, h1, h2, h3, h4, _⟩ := run_append_lies (P := Tryz.prog) (W.alloc (.cells #[p] 50)) 60 60 base 50 i0 _ 1 8 Tryz.underlying60 hi hz0 hz1 hz2 rfl (by decide) v n xs (hown.alloc _) ⟨W.heap.size, 0, none⟩ 1 1 [p] rfl (World.news_of_block (heap_new W _)) (by simpa using hp) (by decide) (by unfold maxLen; omega) (by omega) (by simp; omega) _ rfl
  exact ⟨g, cap, w1, h1, h2, h3, h4.imp id (fun h => Nat.le_of_eq h.symm)⟩

theorem At.bodyRun {w W : World} {ls : List Drl.Ln} {k Rb Mb : Nat} {ov : Value} {ad : Nat → Nat} {wv bv : Nat → Value} {st : Drl.RSt} (h : At w ls (k + 1) Rb Mb ov ad wv bv st W) (hl : ls.length ≤ 65536) (i n : Nat) (hi : i < st.ar.length) (hn : n < st.ar.length)
    (hbl : (Drl.nd st.ar i).body.length ≤ k) : ∃ g cap w1, (Builtin.append_ #[60, 60] 60 #[bv i, .slice (some ⟨W.heap.size, 0, none⟩) 1 1]).run Tryz.prog (W.alloc (.cells #[.pointer (some ⟨ad n, 0, none⟩)] 50)) = .ok (.slice (some ⟨g, 0, none⟩) ((Drl.nd st.ar i).body.length + 1) cap) w1 ∧
      w1.frozen? ⟨ad i, 4, none⟩ = false ∧ w1.cell? ⟨ad i, 4, none⟩ = some (bv i) ∧
      At w ls (k + 1) Rb Mb ov ad wv (setF bv i (.slice (some ⟨g, 0, none⟩) ((Drl.nd st.ar i).body.length + 1) cap)) { st with ar := Drl.addTo st.ar i n } (w1.setCell ⟨ad i, 4, none⟩ (.slice (some ⟨g, 0, none⟩) ((Drl.nd st.ar i).body.length + 1) cap)) := by
  have hk := h.hk
  obtain ⟨g, cap, w1, h1, h2, h3, h4⟩ := append_ptr (h.mem.nodes.body i hi) (.pointer (some ⟨ad n, 0, none⟩)) rfl (by omega) h.keep.size
  have hA := h.next ((Below.refl W.heap.size W).alloc (Nat.le_refl _) (.cells #[.pointer (some ⟨ad n, 0, none⟩)] 50))
  have hrow : ∀ g, (bv i).ownBlock = some g → ∃ c fz, (W.alloc (.cells #[.pointer (some ⟨ad n, 0, none⟩)] 50)).heap[g]? = some (.cells c 50 fz) := fun g hg => by
    obtain ⟨c, fz, h1, _⟩ := ownsRow_row (hA.mem.nodes.body i hi) g hg
    exact ⟨c, fz, h1⟩
  obtain ⟨n1, _⟩ := hA.mem.rows h3 hrow
  exact ⟨g, cap, w1, h1, free_of (n1 i hi) 4, cell_of (n1 i hi) rfl, hA.body i n hi hn hbl _ h3 h2 g rfl h4⟩

theorem At.openRun {w W : World} {ls : List Drl.Ln} {k Rb Mb : Nat} {ov : Value} {ad : Nat → Nat} {wv bv : Nat → Value} {st : Drl.RSt} (h : At w ls (k + 1) Rb Mb ov ad wv bv st W) (hl : ls.length ≤ 65536) (n : Nat) (hn : n < st.ar.length) (h0 : n ≠ 0)
    (hd : Drl.wd (Drl.nd st.ar n).ws 0 = Drl.wDef → st.opn.length ≤ 1 ∧ (Drl.nd st.ar n).ws.length = 2 ∧ Drl.look st.names (Drl.wd (Drl.nd st.ar n).ws 1) = none)
    (hol : st.opn.length ≤ k + 1) : ∃ g cap w1, (Builtin.append_ #[60, 60] 60 #[ov, .slice (some ⟨W.heap.size, 0, none⟩) 1 1]).run Tryz.prog (W.alloc (.cells #[.pointer (some ⟨ad n, 0, none⟩)] 50)) = .ok (.slice (some ⟨g, 0, none⟩) (st.opn.length + 1) cap) w1 ∧
      w1.frozen? ⟨Rb, 0, none⟩ = false ∧ w1.cell? ⟨Rb, 0, none⟩ = some ov ∧
      At w ls (k + 1) Rb Mb (.slice (some ⟨g, 0, none⟩) (st.opn.length + 1) cap) ad wv bv { st with opn := st.opn ++ [n] } (w1.setCell ⟨Rb, 0, none⟩ (.slice (some ⟨g, 0, none⟩) (st.opn.length + 1) cap)) := by
  have hk := h.hk
  obtain ⟨g, cap, w1, h1, h2, h3, h4⟩ := append_ptr h.mem.opn (.pointer (some ⟨ad n, 0, none⟩)) rfl (by omega) h.keep.size
  have hA := h.next ((Below.refl W.heap.size W).alloc (Nat.le_refl _) (.cells #[.pointer (some ⟨ad n, 0, none⟩)] 50))
  have hrow : ∀ g, ov.ownBlock = some g → ∃ c fz, (W.alloc (.cells #[.pointer (some ⟨ad n, 0, none⟩)] 50)).heap[g]? = some (.cells c 50 fz) := fun g hg => by
    obtain ⟨c, fz, h1, _⟩ := ownsRow_row hA.mem.opn g hg
    exact ⟨c, fz, h1⟩
  obtain ⟨_, _, r1, _⟩ := hA.mem.rows h3 hrow
  exact ⟨g, cap, w1, h1, free_of r1 0, cell_of r1 rfl, hA.open_ n hn h0 hd hol _ h3 h2 g rfl h4⟩
end Go.Proofs.YtfbmlnkgjgnnhaaGreatDoor
end
