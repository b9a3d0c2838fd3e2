import Derived.Test.YtfbmlnkgjgnnhaaGreatDoorA14
import Derived.StillTailTactics
namespace Go.Proofs.YtfbmlnkgjgnnhaaGreatDoor
open Go.RowKit

set_option maxRecDepth 100000
set_option maxHeartbeats 1000000

theorem read_pass2 (w : World) (ao : Option Addr) (cap : Nat) (ls : List Drl.Ln) (a : Act) (wr : World) (r2 : Code) (hr : findLabel readScope 2 = some r2) (hJ : JEnd w ao cap ls a wr) (hl : ls.length ≤ 65536)
    (hsm : ∀ x ∈ ls, 1 ≤ x.ws.length ∧ ∀ t ∈ x.ws, t.length ≤ 65536) : r2.wp Tryz.prog (PassPost w ao cap ls (mu ls 2 a wr)) a wr := by
  have e := hr.symm.trans (rfl : findLabel readScope 2 = some _)
  obtain rfl := Option.some.inj e
  clear hr e
  obtain ⟨k, Rb, Mb, ov, ad, wv, bv, st, nb, b, x, ⟨u, rfl⟩, hat, hfrom, hx, hend, hnew⟩ := hJ
  have hkl : k < ls.length := (List.getElem?_eq_some_iff.1 hx).1
  have hne := hat.inv.ne
  obtain ⟨g, c, rfl, hc, _⟩ := hat.mem.ov hne
  have hop := List.length_pos_iff.2 hne
  have hol := hat.olen
  have hm : ∀ t : Nat, t = 2 * (ls.length + 1 - (k + 1)) → t < mu ls 2 { tmps := #[.slice ao ls.length cap, undef, .pointer none, .nilIface, nptr ad 0, .pointer (some ⟨Rb, 0, none⟩), .int .i64 ((k + 1 : Nat) : Int), .pointer (some ⟨nb, 0, none⟩), nptr ad (Drl.top st), u 9, u 10, u 11, u 12, u 13, u 14, u 15, u 16, u 17, u 18, u 19, u 20, u 21, u 22, u 23, u 24, u 25, u 26, u 27, u 28, u 29, u 30, u 31, u 32, u 33, u 34, u 35, u 36, u 37, u 38, u 39, u 40, u 41, u 42, u 43, u 44, u 45, u 46, u 47, u 48, u 49, u 50, u 51, u 52, u 53, u 54, u 55, u 56, u 57, u 58, u 59, u 60, u 61, u 62, u 63, u 64, u 65, u 66, u 67, u 68, u 69, u 70, u 71, u 72, u 73, u 74, u 75, u 76, u 77, u 78, u 79, u 80, u 81, u 82, u 83, u 84, u 85, u 86, u 87, u 88, u 89, u 90, u 91, u 92, u 93, u 94, u 95, u 96, u 97, u 98, u 99, u 100, u 101, u 102, u 103, u 104, u 105, u 106, u 107, u 108, u 109, u 110, u 111, u 112, u 113, u 114, u 115, u 116, u 117, u 118, u 119, u 120, u 121, u 122, u 123, u 124, u 125, u 126, u 127, u 128, u 129, u 130, u 131, u 132, u 133, u 134, u 135, u 136, u 137, u 138, u 139, u 140, u 141, u 142, u 143, u 144, u 145, u 146, u 147, u 148, u 149, u 150, u 151, u 152, u 153, u 154, u 155, u 156, u 157, u 158, u 159, u 160, u 161, u 162, u 163, u 164, u 165, u 166, u 167, u 168, u 169, u 170, u 171, u 172, u 173, u 174, u 175, u 176, u 177, u 178, u 179, u 180, u 181, u 182, u 183, u 184, u 185, u 186, u 187, u 188, u 189, u 190, u 191, u 192, u 193, u 194, u 195, u 196, u 197, u 198, u 199, u 200, u 201, u 202, u 203, u 204, u 205, u 206, u 207], defers := [] } wr := fun t ht => by
    have : mu ls 2 { tmps := #[.slice ao ls.length cap, undef, .pointer none, .nilIface, nptr ad 0, .pointer (some ⟨Rb, 0, none⟩), .int .i64 ((k + 1 : Nat) : Int), .pointer (some ⟨nb, 0, none⟩), nptr ad (Drl.top st), u 9, u 10, u 11, u 12, u 13, u 14, u 15, u 16, u 17, u 18, u 19, u 20, u 21, u 22, u 23, u 24, u 25, u 26, u 27, u 28, u 29, u 30, u 31, u 32, u 33, u 34, u 35, u 36, u 37, u 38, u 39, u 40, u 41, u 42, u 43, u 44, u 45, u 46, u 47, u 48, u 49, u 50, u 51, u 52, u 53, u 54, u 55, u 56, u 57, u 58, u 59, u 60, u 61, u 62, u 63, u 64, u 65, u 66, u 67, u 68, u 69, u 70, u 71, u 72, u 73, u 74, u 75, u 76, u 77, u 78, u 79, u 80, u 81, u 82, u 83, u 84, u 85, u 86, u 87, u 88, u 89, u 90, u 91, u 92, u 93, u 94, u 95, u 96, u 97, u 98, u 99, u 100, u 101, u 102, u 103, u 104, u 105, u 106, u 107, u 108, u 109, u 110, u 111, u 112, u 113, u 114, u 115, u 116, u 117, u 118, u 119, u 120, u 121, u 122, u 123, u 124, u 125, u 126, u 127, u 128, u 129, u 130, u 131, u 132, u 133, u 134, u 135, u 136, u 137, u 138, u 139, u 140, u 141, u 142, u 143, u 144, u 145, u 146, u 147, u 148, u 149, u 150, u 151, u 152, u 153, u 154, u 155, u 156, u 157, u 158, u 159, u 160, u 161, u 162, u 163, u 164, u 165, u 166, u 167, u 168, u 169, u 170, u 171, u 172, u 173, u 174, u 175, u 176, u 177, u 178, u 179, u 180, u 181, u 182, u 183, u 184, u 185, u 186, u 187, u 188, u 189, u 190, u 191, u 192, u 193, u 194, u 195, u 196, u 197, u 198, u 199, u 200, u 201, u 202, u 203, u 204, u 205, u 206, u 207], defers := [] } wr = 2 * (ls.length + 1 - (k + 1)) + 1 := rfl
    omega
  generalize mu ls 2 { tmps := #[.slice ao ls.length cap, undef, .pointer none, .nilIface, nptr ad 0, .pointer (some ⟨Rb, 0, none⟩), .int .i64 ((k + 1 : Nat) : Int), .pointer (some ⟨nb, 0, none⟩), nptr ad (Drl.top st), u 9, u 10, u 11, u 12, u 13, u 14, u 15, u 16, u 17, u 18, u 19, u 20, u 21, u 22, u 23, u 24, u 25, u 26, u 27, u 28, u 29, u 30, u 31, u 32, u 33, u 34, u 35, u 36, u 37, u 38, u 39, u 40, u 41, u 42, u 43, u 44, u 45, u 46, u 47, u 48, u 49, u 50, u 51, u 52, u 53, u 54, u 55, u 56, u 57, u 58, u 59, u 60, u 61, u 62, u 63, u 64, u 65, u 66, u 67, u 68, u 69, u 70, u 71, u 72, u 73, u 74, u 75, u 76, u 77, u 78, u 79, u 80, u 81, u 82, u 83, u 84, u 85, u 86, u 87, u 88, u 89, u 90, u 91, u 92, u 93, u 94, u 95, u 96, u 97, u 98, u 99, u 100, u 101, u 102, u 103, u 104, u 105, u 106, u 107, u 108, u 109, u 110, u 111, u 112, u 113, u 114, u 115, u 116, u 117, u 118, u 119, u 120, u 121, u 122, u 123, u 124, u 125, u 126, u 127, u 128, u 129, u 130, u 131, u 132, u 133, u 134, u 135, u 136, u 137, u 138, u 139, u 140, u 141, u 142, u 143, u 144, u 145, u 146, u 147, u 148, u 149, u 150, u 151, u 152, u 153, u 154, u 155, u 156, u 157, u 158, u 159, u 160, u 161, u 162, u 163, u 164, u 165, u 166, u 167, u 168, u 169, u 170, u 171, u 172, u 173, u 174, u 175, u 176, u 177, u 178, u 179, u 180, u 181, u 182, u 183, u 184, u 185, u 186, u 187, u 188, u 189, u 190, u 191, u 192, u 193, u 194, u 195, u 196, u 197, u 198, u 199, u 200, u 201, u 202, u 203, u 204, u 205, u 206, u 207], defers := [] } wr = m at hm ⊢
  have HX := Lib.hid hx
  have HM := Lib.hid hm
  have HN := Lib.hid hnew
  have HE := Lib.hid hend
  have HF := Lib.hid hfrom
  have hP := hat.push hx (hsm _ (List.mem_of_getElem? hx)) hnew
  have HP := Lib.hid hP
  have HAT := Lib.hid hat
  have hpos := hat.inv.pos
  have htl := hat.inv.top_lt
  have htn : wr.heap[ad (Drl.top st)]? = _ := hat.mem.nodes.node _ htl
  clear hx hm hend hfrom hP hat
  unfold nptr
  by_cases ht : Drl.top st = 0
  · have hq : ∀ v, (binOp .eql 50 (.pointer (some ⟨v, 0, none⟩)) (.pointer (some ⟨v, 0, none⟩))).run Tryz.prog wr = .ok (.bool true) wr := fun v => eql_same _ _
    have hct : wr.cell? ⟨nb, 0, none⟩ = some (.int .i64 x.at_) := cell_of hnew.cells rfl
    rw [ht]
    clear hnew htn
    go_wp2_with fail
    refine (wrap_any _ _ _).mono ?_
    rintro e w' ⟨rfl, rfl⟩
    go_wp2_with fail
    go_ret2
    have hb : Below wr.heap.size wr (wr.alloc (.cells #[.int .i64 x.at_, .iface 33 (.int .i64 290)] 79)) := (Below.refl _ _).alloc (Nat.le_refl _) _
    refine ⟨HAT.out.keep.trans (hb.mono HAT.out.keep.size), ?_⟩
    have : Drl.readFrom Drl.st0 ls = .error (x.at_, 290) := step_stop HX.out (by simp [Drl.readStep, HE.out, ht]) HF.out
    rw [this]
    exact ⟨_, rfl, _, rfl, heap_new _ _⟩
  · have hadn : ad (Drl.top st) ≠ ad 0 := fun e => ht (HAT.out.mem.nodes.inj _ _ htl hpos e)
    have hq : (binOp .eql 50 (.pointer (some ⟨ad (Drl.top st), 0, none⟩)) (.pointer (some ⟨ad 0, 0, none⟩))).run Tryz.prog wr = .ok (.bool false) wr :=
      eql_other _ (fun e => hadn (by injection e)) htn (HAT.out.mem.nodes.node _ hpos)
    obtain ⟨hw1, hw2⟩ := HAT.out.inv.ws _ (Nat.pos_of_ne_zero ht) htl
    obtain ⟨bt, hvt, hbt⟩ : ∃ bt, wv (Drl.top st) = .slice (some ⟨bt, 0, none⟩) (Drl.nd st.ar (Drl.top st)).ws.length (Drl.nd st.ar (Drl.top st)).ws.length ∧ WordsIn wr bt (Drl.nd st.ar (Drl.top st)).ws := by
      rcases HAT.out.mem.nodes.words _ htl with ⟨h0, _⟩ | ⟨b, h1, h2⟩
      · rw [h0] at hw1; simp at hw1
      · exact ⟨b, h1, h2⟩
    rw [hvt] at htn
    have c2 : wr.cell? ⟨ad (Drl.top st), 2, none⟩ = some (.slice (some ⟨bt, 0, none⟩) (Drl.nd st.ar (Drl.top st)).ws.length (Drl.nd st.ar (Drl.top st)).ws.length) := cell_of htn rfl
    obtain ⟨s0, hs0, hc0⟩ := hbt.str 0 hw1
    have hw1' : (0 : Int) < ((Drl.nd st.ar (Drl.top st)).ws.length : Int) := by omega
    have HBT := Lib.hid hbt
    have HTN := Lib.hid htn
    have HT := Lib.hid ht
    clear hnew htn hbt ht
    by_cases hd : Drl.wd (Drl.nd st.ar (Drl.top st)).ws 0 = Drl.wDef
    · obtain ⟨hd1, hd2⟩ := HAT.out.inv.defs _ HAT.out.inv.top_mem HT.out hd
      have e0 := eq_yes hs0 hd
      unfold Drl.wDef at e0
      have HD := Lib.hid hd
      have HS0 := Lib.hid hs0
      clear hd hs0
      have i1 : 1 < (Drl.nd st.ar (Drl.top st)).ws.length := by omega
      have i1' : (1 : Int) < ((Drl.nd st.ar (Drl.top st)).ws.length : Int) := by omega
      obtain ⟨s1, hs1, hc1⟩ := HBT.out.str 1 i1
      have cm : wr.cell? ⟨Rb, 1, none⟩ = some (.map (some Mb)) := cell_of HAT.out.mem.rd rfl
      go_wp2_with fail
      go_still_tail 12, (by kernel_rfl)
      change wpList _ _ _ _ _ wr.drew
      have hP3 := HP.out.next (below_drew (Below.refl _ wr))
      clear hc0 hc1 c2 cm hq
      generalize wr.drew = w3 at hP3 ⊢
      obtain ⟨w4, hu, hm4, hb4⟩ := hP3.mem.name s1 (Drl.top st) (by rw [hs1]; exact hd2)
      rw [nptr_set htl] at hu
      have HK := Lib.hid (hP3.keep.trans hb4)
      have HS1 := Lib.hid hs1
      clear hP3 hb4 hs1
      have cf : w4.cell? ⟨Rb, 0, none⟩ = some (.slice (some ⟨g, 0, none⟩) st.opn.length c) := cell_of hm4.rd rfl
      have HM4 := Lib.hid hm4
      clear hm4
      have n1 : (1 : Int) ≤ (st.opn.length : Int) := by omega
      have n2 : (st.opn.length : Int) - 1 ≤ (c : Int) := by omega
      have n3 : IntKind.i64.wrap ((st.opn.length : Int) - 1) = (st.opn.length : Int) - 1 := IntWalk.i64_in _ (by omega)
      have n4 : ((st.opn.length : Int) - 1).toNat = st.opn.length - 1 := by omega
      go_wp2_with fail
      go_still_tail 14, (by kernel_rfl)
      change wpList _ _ _ _ _ w4.drew
      have hM5 := HM4.out.next (below_drew (Below.refl _ w4))
      have HK5 := Lib.hid (below_drew HK.out)
      clear hu cf
      generalize w4.drew = w5 at hM5 HK5 ⊢
      have cz : w5.frozen? ⟨Rb, 0, none⟩ = false := free_of hM5.rd 0
      have cf : w5.cell? ⟨Rb, 0, none⟩ = some (.slice (some ⟨g, 0, none⟩) st.opn.length c) := cell_of hM5.rd rfl
      have HM5 := Lib.hid hM5
      clear hM5
      go_wp2_with fail
      go_step3
      refine And.intro ?_ (HM.out _ rfl)
      obtain ⟨hpop, hbp⟩ := HM5.out.pop (by exact HAT.out.inv.ne) rfl
      have hInv := HP.out.inv
      have htop : Drl.top { st with ar := st.ar ++ [newNd x] } = Drl.top st := rfl
      have hs : Drl.readStep st x = .ok { ar := st.ar ++ [newNd x], opn := st.opn.dropLast, names := st.names ++ [(s1.data.toList, Drl.top st)] } := by simp [Drl.readStep, HE.out, HT.out, HD.out, newNd, HS1.out]
      refine JNext.mk_ (k := k + 1) (nptr_set0 hpos) (by simp) Fr.intro ⟨HP.out.hk, hpop, ?_, HK5.out.trans hbp, HP.out.alen, ?_, HP.out.blen⟩ (step_next HX.out hs HF.out)
      · refine hInv.close (by rw [htop]; exact HT.out) _ ?_
        rw [htop, Drl.nd_append htl, if_pos HD.out]; rw [HS1.out]
      · have := HP.out.olen
        simp only [List.length_dropLast] at this ⊢
        omega
    · have e0 := eq_no hs0 hd
      unfold Drl.wDef at e0
      have HD := Lib.hid hd
      clear hd hs0
      have cf : wr.cell? ⟨Rb, 0, none⟩ = some (.slice (some ⟨g, 0, none⟩) st.opn.length c) := cell_of HAT.out.mem.rd rfl
      have n1 : (1 : Int) ≤ (st.opn.length : Int) := by omega
      have n2 : (st.opn.length : Int) - 1 ≤ (c : Int) := by omega
      have n3 : IntKind.i64.wrap ((st.opn.length : Int) - 1) = (st.opn.length : Int) - 1 := IntWalk.i64_in _ (by omega)
      have n4 : ((st.opn.length : Int) - 1).toNat = st.opn.length - 1 := by omega
      go_wp2_with fail
      go_still_tail 14, (by kernel_rfl)
      change wpList _ _ _ _ _ wr.drew
      have hP5 := HP.out.next (below_drew (Below.refl _ wr))
      clear hc0 c2 cf hq
      generalize wr.drew = w5 at hP5 ⊢
      have cz : w5.frozen? ⟨Rb, 0, none⟩ = false := free_of hP5.mem.rd 0
      have cf : w5.cell? ⟨Rb, 0, none⟩ = some (.slice (some ⟨g, 0, none⟩) st.opn.length c) := cell_of hP5.mem.rd rfl
      have HP5 := Lib.hid hP5
      clear hP5
      go_wp2_with fail
      go_step3
      refine And.intro ?_ (HM.out _ rfl)
      obtain ⟨hpop, hbp⟩ := HP5.out.mem.pop (by exact HAT.out.inv.ne) rfl
      have hInv := HP.out.inv
      have htop : Drl.top { st with ar := st.ar ++ [newNd x] } = Drl.top st := rfl
      have hs : Drl.readStep st x = .ok { ar := st.ar ++ [newNd x], opn := st.opn.dropLast, names := st.names } := by simp [Drl.readStep, HE.out, HT.out, HD.out, newNd]
      refine JNext.mk_ (k := k + 1) (nptr_set0 hpos) (by simp) Fr.intro ⟨HP.out.hk, hpop, ?_, HP5.out.keep.trans hbp, HP.out.alen, ?_, HP.out.blen⟩ (step_next HX.out hs HF.out)
      · refine hInv.close (by rw [htop]; exact HT.out) _ ?_
        rw [htop, Drl.nd_append htl, if_neg HD.out]
      · have := HP.out.olen
        simp only [List.length_dropLast] at this ⊢
        omega
end Go.Proofs.YtfbmlnkgjgnnhaaGreatDoor
