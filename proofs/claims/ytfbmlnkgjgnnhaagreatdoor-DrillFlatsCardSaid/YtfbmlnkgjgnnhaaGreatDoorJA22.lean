import Derived.Test.YtfbmlnkgjgnnhaaGreatDoorJA20
import Derived.Test.YtfbmlnkgjgnnhaaGreatDoorJA19
import Derived.Deep.RegionHeld3
set_option linter.unusedSimpArgs false
set_option linter.unusedVariables false

section
namespace Go.Proofs.YtfbmlnkgjgnnhaaGreatDoor
open Go.RowKit

set_option maxRecDepth 100000
set_option maxHeartbeats 8000000

theorem Nodes.bodyAt {w : World} {Bt : Nat} {ad : Nat → Nat} {wv bv : Nat → Value} {ar : List Drl.Nd} (h : Nodes w Bt ad wv bv ar) {i : Nat} (hi : i < ar.length) :
    ∃ ao cap, bv i = .slice ao (Drl.nd ar i).body.length cap ∧ ∀ j (hj : j < (Drl.nd ar i).body.length), ∃ g, ao = some ⟨g, 0, none⟩ ∧ w.cell? ⟨g, j, none⟩ = some (nptr ad (Drl.nd ar i).body[j]) := by
  rcases (h.body i hi).2 with ⟨hv, h0⟩ | ⟨g, cap, cur, hv, hb, hh, hn, _, _, _⟩
  · exact ⟨none, 0, by rw [hv, h0], fun j hj => by omega⟩
  · refine ⟨_, cap, hv, fun j hj => ⟨g, rfl, ?_⟩⟩
    have := (h.body i hi).cells (g := g) (by rw [hv]; rfl) j (nptr ad (Drl.nd ar i).body[j]) (by simp [hj])
    have hadd : (⟨g, 0, none⟩ : Addr).add j = ⟨g, j, none⟩ := by unfold Addr.add; split <;> simp_all
    rw [hadd] at this
    exact this
theorem Nodes.next {w w' : World} {Bt : Nat} {ad : Nat → Nat} {wv bv : Nat → Value} {ar : List Drl.Nd} (h : Nodes w Bt ad wv bv ar) (hb : Below w.heap.size w w') : Nodes w' Bt ad wv bv ar :=
  h.keep (.of_next (S := fun _ => False) (es := fun _ => False) hb) (fun _ _ _ _ _ _ => id) id id id
theorem NumsAt.next {w w' : World} {V : Nat} {v : Drl.Nums} (h : NumsAt w V v) (hb : Below w.heap.size w w') : NumsAt w' V v := (hb.block V h.lt).trans h

theorem play_words {w' : World} {Bt n bw : Nat} {ad : Nat → Nat} {wv bv : Nat → Value} {ar : List Drl.Nd} (h : Nodes w' Bt ad wv bv ar) (hn : n < ar.length) (hvw : wv n = .slice (some ⟨bw, 0, none⟩) (Drl.nd ar n).ws.length (Drl.nd ar n).ws.length) {i : Nat} (hi : i < (Drl.nd ar n).ws.length) {s : ByteArray} (hs : s.data.toList = Drl.wd (Drl.nd ar n).ws i) :
    w'.cell? ⟨bw, i, none⟩ = some (.string s) := by
  rcases h.words n hn with ⟨h0, _⟩ | ⟨b, h1, h2⟩
  · rw [h0] at hi; simp at hi
  · rw [hvw] at h1
    injection h1 with e
    injection e with e
    injection e with e
    subst e
    have := WordsIn.cell (b := bw) h2 i hi
    rw [this, strV_eq hs]
theorem play_S {w' : World} {Bt n bw : Nat} {ad : Nat → Nat} {wv bv : Nat → Value} {ar : List Drl.Nd} (h : Nodes w' Bt ad wv bv ar) (hn : n < ar.length) (hvw : wv n = .slice (some ⟨bw, 0, none⟩) (Drl.nd ar n).ws.length (Drl.nd ar n).ws.length) (h1 : 1 < (Drl.nd ar n).ws.length) {s1 : ByteArray} (hs1 : s1.data.toList = Drl.wd (Drl.nd ar n).ws 1) :
    w'.cell? ⟨ad n, 4, none⟩ = some (bv n) ∧ w'.cell? ⟨ad n, 2, none⟩ = some (.slice (some ⟨bw, 0, none⟩) (Drl.nd ar n).ws.length (Drl.nd ar n).ws.length) ∧ w'.cell? ⟨bw, 1, none⟩ = some (.string s1) ∧ Nodes w' Bt ad wv bv ar :=
  ⟨cell_of (h.node n hn) rfl, by rw [← hvw]; exact cell_of (h.node n hn) rfl, play_words h hn hvw h1 hs1, h⟩

theorem play_F {w' : World} {Bt n bw : Nat} {ad : Nat → Nat} {wv bv : Nat → Value} {ar : List Drl.Nd} (h : Nodes w' Bt ad wv bv ar) (hn : n < ar.length) (hvw : wv n = .slice (some ⟨bw, 0, none⟩) (Drl.nd ar n).ws.length (Drl.nd ar n).ws.length) (h1 : 3 < (Drl.nd ar n).ws.length) {s2 s3 : ByteArray} (hs2 : s2.data.toList = Drl.wd (Drl.nd ar n).ws 2) (hs3 : s3.data.toList = Drl.wd (Drl.nd ar n).ws 3) :
    w'.cell? ⟨ad n, 4, none⟩ = some (bv n) ∧ w'.cell? ⟨ad n, 2, none⟩ = some (.slice (some ⟨bw, 0, none⟩) (Drl.nd ar n).ws.length (Drl.nd ar n).ws.length) ∧ w'.cell? ⟨bw, 2, none⟩ = some (.string s2) ∧ w'.cell? ⟨bw, 3, none⟩ = some (.string s3) ∧ Nodes w' Bt ad wv bv ar :=
  ⟨cell_of (h.node n hn) rfl, by rw [← hvw]; exact cell_of (h.node n hn) rfl, play_words h hn hvw (by omega) hs2, play_words h hn hvw (by omega) hs3, h⟩
theorem play_U {w' : World} {Bt n d : Nat} {ad : Nat → Nat} {wv bv : Nat → Value} {ar : List Drl.Nd} (h : Nodes w' Bt ad wv bv ar) (hn : n < ar.length) (hd : d < ar.length) (hu : (Drl.nd ar n).use = some d) :
    w'.cell? ⟨ad n, 5, none⟩ = some (.pointer (some ⟨ad d, 0, none⟩)) ∧ w'.cell? ⟨ad d, 4, none⟩ = some (bv d) ∧ Nodes w' Bt ad wv bv ar := by
  refine ⟨?_, cell_of (h.node d hd) rfl, h⟩
  have e : (nodeCells ad (wv n) (bv n) (Drl.nd ar n))[5]? = some (.pointer (some ⟨ad d, 0, none⟩)) := by
    show some (useV ad (Drl.nd ar n).use) = _
    rw [hu]; rfl
  exact cell_of (h.node n hn) e

/-- what a node of a list comes to -/
def _root_.Drl.one (ar : List Drl.Nd) (k n : Nat) (v : Drl.Nums) (st : Drl.PSt) : Option (Except Drl.Err Drl.PSt) :=
  if Drl.wd (Drl.nd ar n).ws 0 = Drl.wRepeat then (Drl.cnt v (Drl.wd (Drl.nd ar n).ws 1)).bind fun c => Drl.run ar k (.times n (Drl.nd ar n).body v 1 c) st
      else if Drl.wd (Drl.nd ar n).ws 0 = Drl.wFor then (Drl.cnt v (Drl.wd (Drl.nd ar n).ws 2)).bind fun a => (Drl.cnt v (Drl.wd (Drl.nd ar n).ws 3)).bind fun b => Drl.run ar k (.times n (Drl.nd ar n).body v a b) st
      else if Drl.wd (Drl.nd ar n).ws 0 = Drl.wUse then (Drl.nd ar n).use.bind fun d => Drl.run ar k (.times n (Drl.nd ar d).body Drl.noNums 1 1) st
      else some (Drl.step (Drl.nd ar n) v st)
theorem _root_.Drl.run_cons (ar : List Drl.Nd) (k n : Nat) (l : List Nat) (v : Drl.Nums) (st : Drl.PSt) : Drl.run ar (k + 1) (.seq (n :: l) v) st = match Drl.one ar k n v st with
    | none => none
    | some (.error e) => some (.error e)
    | some (.ok st') => Drl.run ar k (.seq l v) st' := rfl

theorem play_ok (K : Nat) (hT : ∀ k, k < K → TimesOk k) : PlayOk K := by
  intro w B R Bt V i sv st ad wv bv ar v r hS hG hN hv hi hr
  obtain ⟨ao, cap, hbv, hcells⟩ := hS.nodes.bodyAt hi
  have HS := Lib.hid hS
  have HG := Lib.hid hG
  have HNN := Lib.hid hN
  have HV := Lib.hid hv
  have HT := Lib.hid hT
  have HR := Lib.hid hr
  have HBL := HG.out.blen i hi
  clear hS hG hN hv hT hr hcells
  rw [hbv]
  go_enter Tryz.func22, Tryz.ntmps22
  go_wp2_with fail
  go_loopw [12] (fun i' wr => ∃ (j k' : Nat) (st' : Drl.PSt) (sv' : Value), i' = .int .i64 j ∧ j ≤ (Drl.nd ar i).body.length ∧ k' ≤ K ∧ Drl.run ar k' (.seq ((Drl.nd ar i).body.drop j) v) st' = some r ∧ Left B R w wr ∧ RunAt wr B R sv' st') (fun i' _ => (Drl.nd ar i).body.length - (intOf i').toNat)
  case atStart => exact ⟨0, K, st, sv, rfl, Nat.zero_le _, Nat.le_refl _, by rw [List.drop_zero]; exact HR.out, Left.refl B R w, HS.out.run⟩
  case round =>
    obtain ⟨j, k', st', sv', rfl, hj, hk', hru, hL, hR⟩ := hrel
    cases k' with
    | zero => simp [Drl.run] at hru
    | succ k2 =>
    have HLw := Lib.hid hL
    have HRw := Lib.hid hR
    by_cases hjl : j < (Drl.nd ar i).body.length
    · have hjl' : (j : Int) < ((Drl.nd ar i).body.length : Int) := by omega
      have hS' := HS.out.left hL hR
      obtain ⟨ao2, cap2, hbv2, hc2⟩ := hS'.nodes.bodyAt hi
      rw [hbv] at hbv2
      injection hbv2 with e1 e2 e3
      subst e1 e3
      clear e2
      obtain ⟨g, rfl, hcg⟩ := hc2 j hjl
      have hmem : (Drl.nd ar i).body[j] ∈ (Drl.nd ar i).body := List.getElem_mem hjl
      have hdr : (Drl.nd ar i).body.drop j = (Drl.nd ar i).body[j] :: (Drl.nd ar i).body.drop (j + 1) := List.drop_eq_getElem_cons hjl
      generalize (Drl.nd ar i).body[j] = n at hcg hmem hdr
      obtain ⟨hnlt, hw1, hwl, hrep, hfor, huse, hexp, htxt⟩ := HG.out.body i hi n hmem
      have hnode := hS'.nodes.node n hnlt
      obtain ⟨bw, hvw, hww⟩ : ∃ bw, wv n = .slice (some ⟨bw, 0, none⟩) (Drl.nd ar n).ws.length (Drl.nd ar n).ws.length ∧ WordsIn wr bw (Drl.nd ar n).ws := by
        rcases hS'.nodes.words n hnlt with ⟨h0, _⟩ | ⟨b, h1, h2⟩
        · rw [h0] at hw1; simp at hw1
        · exact ⟨b, h1, h2⟩
      rw [hvw] at hnode
      obtain ⟨s0, hs0, hc0⟩ := hww.str 0 hw1
      have hw0 : (0 : Int) < ((Drl.nd ar n).ws.length : Int) := by omega
      have d2 : wr.cell? ⟨ad n, 2, none⟩ = some (.slice (some ⟨bw, 0, none⟩) (Drl.nd ar n).ws.length (Drl.nd ar n).ws.length) := cell_of hnode rfl
      rw [hdr, Drl.run_cons] at hru
      unfold nptr at hcg
      have hNr := HNN.out.left hL HS.out.run.at_
      have HNr := Lib.hid hNr
      have HSr := Lib.hid hS'
      have HND := Lib.hid hnode
      have HWW := Lib.hid hww
      clear hL hR hS' hnode hww hc2 hmem hdr hNr hbv
      cases hone : Drl.one ar k2 n v st' with
      | none => rw [hone] at hru; cases hru
      | some q =>
      rw [hone] at hru

      unfold Drl.one at hone
      by_cases q1 : Drl.wd (Drl.nd ar n).ws 0 = Drl.wRepeat
      · have b1 := eq_yes hs0 q1
        unfold Drl.wRepeat at b1
        rw [if_pos q1] at hone
        have hlen := hrep q1
        cases hc : Drl.cnt v (Drl.wd (Drl.nd ar n).ws 1) with
        | none => rw [hc] at hone; cases hone
        | some c =>
        rw [hc] at hone
        have hcl := (cnt_le hc).2
        have i1 : 1 < (Drl.nd ar n).ws.length := by omega
        have i1' : (1 : Int) < ((Drl.nd ar n).ws.length : Int) := by omega
        obtain ⟨s1, hs1, _⟩ := HWW.out.str 1 i1
        have hz1 : s1.size ≤ 65536 := by have := wd_len hwl 1; rw [← hs1, size_len] at this; exact this
        have HSd := Lib.hid (HSr.out.next (below_drew (Below.refl _ wr)))
        have HNd := Lib.hid (HNr.out.next (below_drew (Below.refl _ wr)))
        have HCN := Lib.hid (show Drl.cnt v s1.data.toList = some c by rw [hs1]; exact hc)
        have HS1 := Lib.hid hs1
        have HQ := Lib.hid (show Drl.run ar k2 (.times n (Drl.nd ar n).body v 1 c) st' = some q from hone)
        have hBr : B ≤ wr.heap.size := by have := lt_of HRw.out.at_; have := HRw.out.base; omega
        clear hone hc hs1 hs0 q1
        cases q with
        | error x =>
          dsimp only at hru
          go_wp2_with fail
          go_region_held3 (fun w' => w'.cell? ⟨ad n, 4, none⟩ = some (bv n) ∧ w'.cell? ⟨ad n, 2, none⟩ = some (.slice (some ⟨bw, 0, none⟩) (Drl.nd ar n).ws.length (Drl.nd ar n).ws.length) ∧ w'.cell? ⟨bw, 1, none⟩ = some (.string s1) ∧ Nodes w' Bt ad wv bv ar)
            (first
              | exact play_S HSd.out.nodes hnlt hvw i1 HS1.out
              | exact play_S (hst.nodes.left hL5 hst.run.at_) hnlt hvw i1 HS1.out
              | exact play_S (HSd.out.nodes.next hb1) hnlt hvw i1 HS1.out)
            ((first
              | (go_at_call 39; refine (count_ok v V s1 _ HSd.out.env HNd.out HV.out hz1 c HCN.out).mono ?_; rintro e w1 ⟨rfl, hb1⟩)
              | (go_at_call 38; have hst := HSd.out.next hb1; have hnu := HNd.out.next hb1; have hD5 := Left.next (Left.refl B R wr) hBr ((below_drew (Below.refl _ wr)).trans hb1); refine (HT.out k2 (by omega) _ B R Bt V n n sv' st' ad wv bv ar v 1 c _ hst HG.out hnu HV.out hnlt hnlt (by decide) (by decide) hcl HQ.out).mono ?_; rintro e w5 ⟨hL5, v', rfl, b', rfl, hb'⟩)))
          obtain rfl : Except.error x = r := Option.some.inj hru
          have HLE := Lib.hid (HLw.out.trans (hD5.trans hL5))
          have HB := Lib.hid hb'
          clear hru
          go_wp2_with fail
          go_ret
          exact ⟨HLE.out, _, rfl, _, rfl, HB.out⟩
        | ok st5 =>
          dsimp only at hru
          go_wp2_with fail
          go_region_held3 (fun w' => w'.cell? ⟨ad n, 4, none⟩ = some (bv n) ∧ w'.cell? ⟨ad n, 2, none⟩ = some (.slice (some ⟨bw, 0, none⟩) (Drl.nd ar n).ws.length (Drl.nd ar n).ws.length) ∧ w'.cell? ⟨bw, 1, none⟩ = some (.string s1) ∧ Nodes w' Bt ad wv bv ar)
            (first
              | exact play_S HSd.out.nodes hnlt hvw i1 HS1.out
              | exact play_S (hst.nodes.left hL5 hst.run.at_) hnlt hvw i1 HS1.out
              | exact play_S (HSd.out.nodes.next hb1) hnlt hvw i1 HS1.out)
            ((first
              | (go_at_call 39; refine (count_ok v V s1 _ HSd.out.env HNd.out HV.out hz1 c HCN.out).mono ?_; rintro e w1 ⟨rfl, hb1⟩)
              | (go_at_call 38; have hst := HSd.out.next hb1; have hnu := HNd.out.next hb1; have hD5 := Left.next (Left.refl B R wr) hBr ((below_drew (Below.refl _ wr)).trans hb1); refine (HT.out k2 (by omega) _ B R Bt V n n sv' st' ad wv bv ar v 1 c _ hst HG.out hnu HV.out hnlt hnlt (by decide) (by decide) hcl HQ.out).mono ?_; rintro e w5 ⟨hL5, rfl, sv5, hR5⟩)))
          have HLE := Lib.hid (HLw.out.trans (hD5.trans hL5))
          have HR5 := Lib.hid hR5
          have HRU := Lib.hid hru
          clear hru
          have hw1' : IntKind.i64.wrap ((j : Int) + 1) = (j : Int) + 1 := IntWalk.i64_in _ (by omega)
          go_wp2_with fail
          go_round
          case rel => exact ⟨j + 1, k2, st5, sv5, by go_num, by omega, by omega, HRU.out, HLE.out, HR5.out⟩
          case measure => simp only [intOf]; omega
      have b1 := eq_no hs0 q1
      unfold Drl.wRepeat at b1
      rw [if_neg q1] at hone
      by_cases q2 : Drl.wd (Drl.nd ar n).ws 0 = Drl.wFor
      · have b2 := eq_yes hs0 q2
        unfold Drl.wFor at b2
        rw [if_pos q2] at hone
        have hlen := hfor q2
        cases hc : Drl.cnt v (Drl.wd (Drl.nd ar n).ws 2) with
        | none => rw [hc] at hone; cases hone
        | some c =>
        cases hc' : Drl.cnt v (Drl.wd (Drl.nd ar n).ws 3) with
        | none => rw [hc, hc'] at hone; cases hone
        | some c' =>
        rw [hc, hc'] at hone
        have hcl := (cnt_le hc).2
        have hc0' := (cnt_le hc).1
        have hcl' := (cnt_le hc').2
        have i1 : 3 < (Drl.nd ar n).ws.length := by omega
        have i2' : (2 : Int) < ((Drl.nd ar n).ws.length : Int) := by omega
        have i3' : (3 : Int) < ((Drl.nd ar n).ws.length : Int) := by omega
        obtain ⟨s2, hs2, _⟩ := HWW.out.str 2 (by omega)
        obtain ⟨s3, hs3, _⟩ := HWW.out.str 3 (by omega)
        have hz2 : s2.size ≤ 65536 := by have := wd_len hwl 2; rw [← hs2, size_len] at this; exact this
        have hz3 : s3.size ≤ 65536 := by have := wd_len hwl 3; rw [← hs3, size_len] at this; exact this
        have HSd := Lib.hid (HSr.out.next (below_drew (Below.refl _ wr)))
        have HNd := Lib.hid (HNr.out.next (below_drew (Below.refl _ wr)))
        have HC2 := Lib.hid (show Drl.cnt v s2.data.toList = some c by rw [hs2]; exact hc)
        have HC3 := Lib.hid (show Drl.cnt v s3.data.toList = some c' by rw [hs3]; exact hc')
        have HS2 := Lib.hid hs2
        have HS3 := Lib.hid hs3
        have HQ := Lib.hid (show Drl.run ar k2 (.times n (Drl.nd ar n).body v c c') st' = some q from hone)
        have hBr : B ≤ wr.heap.size := by have := lt_of HRw.out.at_; have := HRw.out.base; omega
        clear hone hc hc' hs2 hs3 hs0 q1 q2
        cases q with
        | error x =>
          dsimp only at hru
          go_wp2_with fail
          go_region_held3 (fun w' => w'.cell? ⟨ad n, 4, none⟩ = some (bv n) ∧ w'.cell? ⟨ad n, 2, none⟩ = some (.slice (some ⟨bw, 0, none⟩) (Drl.nd ar n).ws.length (Drl.nd ar n).ws.length) ∧ w'.cell? ⟨bw, 2, none⟩ = some (.string s2) ∧ w'.cell? ⟨bw, 3, none⟩ = some (.string s3) ∧ Nodes w' Bt ad wv bv ar)
            (first
              | exact play_F HSd.out.nodes hnlt hvw i1 HS2.out HS3.out
              | exact play_F (hst.nodes.left hL5 hst.run.at_) hnlt hvw i1 HS2.out HS3.out
              | exact play_F (HSr.out.nodes.next hacc) hnlt hvw i1 HS2.out HS3.out)
            ((first
              | (go_at_call 39; refine (count_ok v V _ _ (by first | exact HSd.out.env | exact (HSr.out.next hacc).env) (by first | exact HNd.out | exact HNr.out.next hacc) HV.out (by first | exact hz2 | exact hz3) _ (by first | exact HC2.out | exact HC3.out)).mono ?_; rintro e w1 ⟨rfl, hb⟩; have hacc : Below wr.heap.size wr w1 := (by first | exact (below_drew (Below.refl _ wr)).trans hb | exact hacc.trans (hb.mono hacc.size)))
              | (go_at_call 38; have hst := HSr.out.next hacc; have hnu := HNr.out.next hacc; have hD5 := Left.next (Left.refl B R wr) hBr hacc; refine (HT.out k2 (by omega) _ B R Bt V n n sv' st' ad wv bv ar v c c' _ hst HG.out hnu HV.out hnlt hnlt hc0' hcl hcl' HQ.out).mono ?_; rintro e w5 ⟨hL5, v', rfl, b', rfl, hb'⟩)))
          all_goals
            obtain rfl : Except.error x = r := Option.some.inj hru
            have HLE := Lib.hid (HLw.out.trans (hD5.trans hL5))
            have HB := Lib.hid hb'
            clear hru
            go_wp2_with fail
            go_ret
            exact ⟨HLE.out, _, rfl, _, rfl, HB.out⟩
        | ok st5 =>
          dsimp only at hru
          go_wp2_with fail
          go_region_held3 (fun w' => w'.cell? ⟨ad n, 4, none⟩ = some (bv n) ∧ w'.cell? ⟨ad n, 2, none⟩ = some (.slice (some ⟨bw, 0, none⟩) (Drl.nd ar n).ws.length (Drl.nd ar n).ws.length) ∧ w'.cell? ⟨bw, 2, none⟩ = some (.string s2) ∧ w'.cell? ⟨bw, 3, none⟩ = some (.string s3) ∧ Nodes w' Bt ad wv bv ar)
            (first
              | exact play_F HSd.out.nodes hnlt hvw i1 HS2.out HS3.out
              | exact play_F (hst.nodes.left hL5 hst.run.at_) hnlt hvw i1 HS2.out HS3.out
              | exact play_F (HSr.out.nodes.next hacc) hnlt hvw i1 HS2.out HS3.out)
            ((first
              | (go_at_call 39; refine (count_ok v V _ _ (by first | exact HSd.out.env | exact (HSr.out.next hacc).env) (by first | exact HNd.out | exact HNr.out.next hacc) HV.out (by first | exact hz2 | exact hz3) _ (by first | exact HC2.out | exact HC3.out)).mono ?_; rintro e w1 ⟨rfl, hb⟩; have hacc : Below wr.heap.size wr w1 := (by first | exact (below_drew (Below.refl _ wr)).trans hb | exact hacc.trans (hb.mono hacc.size)))
              | (go_at_call 38; have hst := HSr.out.next hacc; have hnu := HNr.out.next hacc; have hD5 := Left.next (Left.refl B R wr) hBr hacc; refine (HT.out k2 (by omega) _ B R Bt V n n sv' st' ad wv bv ar v c c' _ hst HG.out hnu HV.out hnlt hnlt hc0' hcl hcl' HQ.out).mono ?_; rintro e w5 ⟨hL5, rfl, sv5, hR5⟩)))
          all_goals
            have HLE := Lib.hid (HLw.out.trans (hD5.trans hL5))
            have HR5 := Lib.hid hR5
            have HRU := Lib.hid hru
            clear hru
            have hw1' : IntKind.i64.wrap ((j : Int) + 1) = (j : Int) + 1 := IntWalk.i64_in _ (by omega)
            go_wp2_with fail
            go_round
            case rel => exact ⟨j + 1, k2, st5, sv5, by go_num, by omega, by omega, HRU.out, HLE.out, HR5.out⟩
            case measure => simp only [intOf]; omega
      have b2 := eq_no hs0 q2
      unfold Drl.wFor at b2
      rw [if_neg q2] at hone
      by_cases q3 : Drl.wd (Drl.nd ar n).ws 0 = Drl.wUse
      · have b3 := eq_yes hs0 q3
        unfold Drl.wUse at b3
        rw [if_pos q3] at hone
        obtain ⟨d, hu⟩ := huse q3
        have hdlt := HG.out.uselt n hnlt d hu
        rw [hu] at hone
        have HSd := Lib.hid (HSr.out.next (below_drew (Below.refl _ wr)))
        have HU := Lib.hid hu
        have HQ := Lib.hid (show Drl.run ar k2 (.times n (Drl.nd ar d).body Drl.noNums 1 1) st' = some q from hone)
        have hBr : B ≤ wr.heap.size := by have := lt_of HRw.out.at_; have := HRw.out.base; omega
        clear hone hu hs0 q1 q2 q3
        cases q with
        | error x =>
          dsimp only at hru
          go_wp2_with fail
          go_region_held3 (fun w' => w'.cell? ⟨ad n, 5, none⟩ = some (.pointer (some ⟨ad d, 0, none⟩)) ∧ w'.cell? ⟨ad d, 4, none⟩ = some (bv d) ∧ Nodes w' Bt ad wv bv ar)
            (first
              | exact play_U HSd.out.nodes hnlt hdlt HU.out
              | exact play_U (hst.nodes.left hL5 hst.run.at_) hnlt hdlt HU.out
              | exact play_U (HSd.out.nodes.next hb1) hnlt hdlt HU.out)
            ((first
              | (go_at_call 23; refine (none_any _).mono ?_; rintro e w1 ⟨rfl, hnu, hb1⟩)
              | (go_at_call 38; have hst := HSd.out.next hb1; have hD5 := Left.next (Left.refl B R wr) hBr ((below_drew (Below.refl _ wr)).trans hb1); refine (HT.out k2 (by omega) _ B R Bt _ n d sv' st' ad wv bv ar Drl.noNums 1 1 _ hst HG.out hnu (fun c => by unfold Drl.noNums; decide) hnlt hdlt (by decide) (by decide) (by decide) HQ.out).mono ?_; rintro e w5 ⟨hL5, v', rfl, b', rfl, hb'⟩)))
          obtain rfl : Except.error x = r := Option.some.inj hru
          have HLE := Lib.hid (HLw.out.trans (hD5.trans hL5))
          have HB := Lib.hid hb'
          clear hru
          go_wp2_with fail
          go_ret
          exact ⟨HLE.out, _, rfl, _, rfl, HB.out⟩
        | ok st5 =>
          dsimp only at hru
          go_wp2_with fail
          go_region_held3 (fun w' => w'.cell? ⟨ad n, 5, none⟩ = some (.pointer (some ⟨ad d, 0, none⟩)) ∧ w'.cell? ⟨ad d, 4, none⟩ = some (bv d) ∧ Nodes w' Bt ad wv bv ar)
            (first
              | exact play_U HSd.out.nodes hnlt hdlt HU.out
              | exact play_U (hst.nodes.left hL5 hst.run.at_) hnlt hdlt HU.out
              | exact play_U (HSd.out.nodes.next hb1) hnlt hdlt HU.out)
            ((first
              | (go_at_call 23; refine (none_any _).mono ?_; rintro e w1 ⟨rfl, hnu, hb1⟩)
              | (go_at_call 38; have hst := HSd.out.next hb1; have hD5 := Left.next (Left.refl B R wr) hBr ((below_drew (Below.refl _ wr)).trans hb1); refine (HT.out k2 (by omega) _ B R Bt _ n d sv' st' ad wv bv ar Drl.noNums 1 1 _ hst HG.out hnu (fun c => by unfold Drl.noNums; decide) hnlt hdlt (by decide) (by decide) (by decide) HQ.out).mono ?_; rintro e w5 ⟨hL5, rfl, sv5, hR5⟩)))
          have HLE := Lib.hid (HLw.out.trans (hD5.trans hL5))
          have HR5 := Lib.hid hR5
          have HRU := Lib.hid hru
          clear hru
          have hw1' : IntKind.i64.wrap ((j : Int) + 1) = (j : Int) + 1 := IntWalk.i64_in _ (by omega)
          go_wp2_with fail
          go_round
          case rel => exact ⟨j + 1, k2, st5, sv5, by go_num, by omega, by omega, HRU.out, HLE.out, HR5.out⟩
          case measure => simp only [intOf]; omega
      have b3 := eq_no hs0 q3
      unfold Drl.wUse at b3
      rw [if_neg q3] at hone
      have hq := Option.some.inj hone
      clear hone q1 q2 q3 hs0
      go_wp2_with fail
      refine (step_ok wr B R (ad n) V bw sv' (bv n) (useV ad (Drl.nd ar n).use) st' HRw.out HS.out.hB HSr.out.env ad (Drl.nd ar n) v HNr.out HV.out HND.out HWW.out hw1 htxt hexp).mono ?_
      rw [hq]
      rintro e w5 ⟨hL5, hm5⟩
      cases q with
      | error x =>
        obtain ⟨v', rfl, b', rfl, hb'⟩ := hm5
        dsimp only at hru
        obtain rfl : Except.error x = r := Option.some.inj hru
        have HLE := Lib.hid (HLw.out.trans hL5)
        have HB := Lib.hid hb'
        clear hL5 hb' hru
        go_wp2_with fail
        go_ret
        exact ⟨HLE.out, _, rfl, _, rfl, HB.out⟩
      | ok st5 =>
        obtain ⟨rfl, sv5, hR5⟩ := hm5
        dsimp only at hru
        have HLE := Lib.hid (HLw.out.trans hL5)
        have HR5 := Lib.hid hR5
        have HRU := Lib.hid hru
        clear hL5 hR5 hru
        have hw1' : IntKind.i64.wrap ((j : Int) + 1) = (j : Int) + 1 := IntWalk.i64_in _ (by omega)
        go_wp2_with fail
        go_round
        case rel => exact ⟨j + 1, k2, st5, sv5, by go_num, by omega, by omega, HRU.out, HLE.out, HR5.out⟩
        case measure => simp only [intOf]; omega
    · have hjl' : ¬ (j : Int) < ((Drl.nd ar i).body.length : Int) := by omega
      have hd0 : (Drl.nd ar i).body.drop j = [] := List.drop_eq_nil_of_le (by omega)
      rw [hd0] at hru
      simp only [Drl.run] at hru
      obtain rfl : Except.ok st' = r := Option.some.inj hru
      clear hL hR hru
      go_wp2_with fail
      go_ret
      exact ⟨HLw.out, rfl, _, HRw.out⟩
end Go.Proofs.YtfbmlnkgjgnnhaaGreatDoor
end

section
namespace Go.Proofs.YtfbmlnkgjgnnhaaGreatDoor
open Go.RowKit

set_option maxRecDepth 100000
set_option maxHeartbeats 2000000

theorem all_ok : ∀ K, PlayOk K ∧ TimesOk K := by
  intro K
  induction K using Nat.strongRecOn with
  | _ K ih => exact ⟨play_ok K fun k hk => (ih k hk).2, times_ok K fun k hk => (ih k hk).1⟩
end Go.Proofs.YtfbmlnkgjgnnhaaGreatDoor
end
