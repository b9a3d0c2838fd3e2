import Derived.Test.YtfbmlnkgjgnnhaaGreatDoorJR12
set_option linter.unusedSimpArgs false
set_option linter.unusedVariables false
namespace Go.Proofs.YtfbmlnkgjgnnhaaGreatDoor
open Go.RowKit

set_option maxRecDepth 100000
set_option maxHeartbeats 4000000

theorem walk_say {w0 : World} {B R V lb lc kb kc eb ec : Nat} {cl : Int} {L : List Drl.Str} {K : List Nat} {E : List Int} {fs : Drl.RSt} {a0 : Int} {b : Nat} {v : Drl.Nums} {r : Except Drl.Err Drl.PSt} {k : Nat} (X : WCtx w0 B R V lb lc kb kc eb ec cl L K E fs b v k) (Q0 : Exit → Act → World → Prop) (c : Code) (hc : walkBody = some c) (u : Nat → Value) (wr : World) (m i : Nat) (hm : b - i ≤ m)
    (hrel : WRel w0 B R V lb lc kb kc eb ec cl L K E fs b v r k i wr) (hib : i < b) {k' : Nat} {l' : List Nat} {st' : Drl.PSt} {sv' : Value} (hk' : k' ≤ k) (hl' : Drl.Lst K E fs.ar i b l') (hrun : Drl.run fs.ar k' (.seq l' v) st' = some r) (hwa : WAt wr B R (.slice (some ⟨lb, 0, none⟩) L.length lc) (.slice (some ⟨kb, 0, none⟩) L.length kc) (.slice (some ⟨eb, 0, none⟩) L.length ec) cl sv' st') {t : Drl.Str} (ht : L[i]? = some t) {ki : Nat} (hki : K[i]? = some ki)
    (hk8 : ki = 8) {x : Drl.Dr} {l2 : List Nat} {k2 : Nat} (hk2 : k2 ≤ k) (hx1 : x.line = i) (hl2 : Drl.Lst K E fs.ar (i + 1) b l2) (hrn : (match Drl.stepD x st' with | .error e => some (.error e) | .ok st2 => Drl.run fs.ar k2 (.seq l2 v) st2) = some r) (hx2 : x.text = Drl.filled v t) (hx3 : x.want = false) :
    c.wp Tryz.prog (Exit.then (fun a' w' => WI w0 B R V lb lc kb kc eb ec cl L K E fs a0 b v r k a' w' ∧ Wmu b a' w' < m) Q0) { tmps := #[.pointer (some ⟨R, 0, none⟩), .int .i64 (a0 : Int), .int .i64 (b : Nat), .agg (letCells v), undef, undef, undef, .pointer (some ⟨V, 0, none⟩), .int .i64 (i : Nat), u 9, u 10, u 11, u 12, u 13, u 14, u 15, u 16, u 17, u 18, u 19, u 20, u 21, u 22, u 23, u 24, u 25, u 26, u 27, u 28, u 29, u 30, u 31, u 32, u 33, u 34, u 35, u 36, u 37, u 38, u 39, u 40, u 41, u 42, u 43, u 44, u 45, u 46, u 47, u 48, u 49, u 50, u 51, u 52, u 53, u 54, u 55, u 56, u 57, u 58, u 59, u 60, u 61, u 62, u 63, u 64, u 65, u 66, u 67, u 68, u 69, u 70, u 71, u 72, u 73, u 74, u 75, u 76, u 77, u 78, u 79, u 80, u 81, u 82, u 83, u 84, u 85, u 86, u 87, u 88, u 89, u 90, u 91, u 92, u 93, u 94, u 95, u 96, u 97, u 98, u 99, u 100, u 101, u 102, u 103, u 104, u 105, u 106, u 107, u 108, u 109, u 110, u 111, u 112, u 113, u 114, u 115, u 116, u 117, u 118, u 119, u 120, u 121, u 122, u 123, u 124, u 125, u 126, u 127, u 128, u 129, u 130, u 131, u 132, u 133, u 134, u 135, u 136, u 137, u 138, u 139, u 140, u 141, u 142, u 143, u 144, u 145, u 146, u 147, u 148, u 149, u 150, u 151, u 152, u 153, u 154, u 155, u 156, u 157, u 158, u 159, u 160, u 161, u 162, u 163, u 164, u 165, u 166, u 167, u 168, u 169, u 170, u 171, u 172, u 173, u 174, u 175, u 176, u 177, u 178, u 179, u 180, u 181, u 182, u 183, u 184, u 185, u 186, u 187, u 188, u 189, u 190, u 191, u 192, u 193, u 194, u 195, u 196, u 197, u 198, u 199, u 200, u 201, u 202, u 203, u 204, u 205, u 206, u 207, u 208, u 209, u 210, u 211, u 212, u 213, u 214, u 215, u 216, u 217, u 218, u 219, u 220, u 221, u 222, u 223, u 224, u 225, u 226], defers := [] } wr := by
  have e := hc.symm.trans (rfl : walkBody = some _)
  obtain rfl := Option.some.inj e
  clear e hc
  have HX := Lib.hid X
  have hib' : (i : Int) < (b : Int) := by omega
  have hbL := X.hb
  have hn := X.fin.hn
  have hil : i < L.length := by omega
  have hil' : (i : Int) < (L.length : Int) := by omega
  obtain ⟨sl, hsl⟩ := exists_str t
  have HREL := Lib.hid hrel
  have d3 := hrel.sh.at_.1 i t ht
  rw [strV_eq hsl] at d3
  have hsz : sl.size ≤ 65536 := by
    have := X.fin.hL t (List.mem_of_getElem? ht)
    rw [← size_len, hsl]; exact this
  have hrg := let_range hrel.let_
  have hu := letters_under
  have hif : (Tryz.prog.info? 72).map (·.size) = some (letCells v).toList.length := by rw [Array.length_toList, letCells_size]; exact letters_info
  have c0 := hrel.sh.c0
  have c7 := hwa.cell7
  have HT := Lib.hid ht
  have HKI := Lib.hid hki
  have HSL := Lib.hid hsl
  have HLT := Lib.hid hrel.let_
  have HRU := Lib.hid hrun
  have HWA := Lib.hid hwa
  have HL1 := Lib.hid hl'
  have HM := Lib.hid hm
  have HHK := Lib.hid hk'
  clear X hrel hrun hwa hl' ht hki hsl hm hk'
  go_wp2_with fail
  go_region_held3 (fun w' => w'.rangeAt V 0 (letCells v).toList ∧ w'.cell? ⟨R, 0, none⟩ = some (.slice (some ⟨lb, 0, none⟩) L.length lc) ∧ w'.cell? ⟨lb, i, none⟩ = some (.string sl))
    (first
      | exact ⟨hrg, c0, d3⟩
      | exact ⟨let_range ((hb1.block _ HLT.out.lt).trans HLT.out), below_cell hb1 c0, below_cell hb1 d3⟩)
    ((first
      | (go_at_call 46; rw [Array.toArray_toList]; refine (rput_any v sl _ HX.out.hv HX.out.lo hsz).mono ?_; rintro e w1 ⟨rfl, hb1⟩)))
  have hbd : Below wr.heap.size wr w1 := (below_drew (Below.refl _ wr)).trans hb1
  have HW1 := Lib.hid (HWA.out.next hbd)
  have HS1 := Lib.hid (HREL.out.sh.next hbd)
  have hlt1 : LetAt w1 V v := (hbd.block _ HLT.out.lt).trans HLT.out
  have HLT1 := Lib.hid hlt1
  have HLF1 := Lib.hid (HREL.out.left.next HX.out.hB hbd)
  rw [HSL.out]
  have x1 := HS1.out.c1
  have x2 := HS1.out.c2
  have y1 := HS1.out.at_.2.1 i ki HKI.out
  have w1' : IntKind.i64.wrap ((i : Int) + 1) = (i : Int) + 1 := IntWalk.i64_in _ (by omega)
  clear hrg hu hif d3 c0 c7 hbd hb1 hlt1
  subst hk8
  have H3 := Lib.hid hl2
  have HRN := Lib.hid hrn
  have HX2 := Lib.hid hx2
  have hcall := rstep_ok w1 B R _ _ _ cl sv' st' HW1.out x ⟨(Drl.filled v t).toArray⟩ (by rw [HX2.out])
  rw [hx1, hx3] at hcall
  have HC := Lib.hid hcall
  clear hl2 hrn hx2 hcall
  go_wp2_with fail
  refine HC.out.mono ?_
  rintro e w2 ⟨⟨hL2, hp⟩, rfl⟩
  have hrn := HRN.out
  cases hq : Drl.stepD x st' with
  | error y =>
    rw [hq] at hp hrn
    have HP := Lib.hid hp
    have HL2 := Lib.hid hL2
    have HRN2 := Lib.hid hrn
    clear hp hrn hq hL2
    go_wp2_with fail
    exact WI.mk_ (i := i + 1) (by go_num) WFr.intro (WRel.toErr HLT1.out HLF1.out HS1.out HW1.out HL2.out HP.out (by omega) (Option.some.inj HRN2.out).symm) (by have := HM.out; omega)
  | ok st2 =>
    rw [hq] at hp hrn
    obtain ⟨sv2, hW2⟩ := hp
    have HP := Lib.hid hW2
    have HL2 := Lib.hid hL2
    have HRN2 := Lib.hid hrn
    clear hW2 hrn hq hL2
    go_wp2_with fail
    exact WI.mk_ (i := i + 1) (by go_num) WFr.intro (WRel.toOk HLT1.out HLF1.out HS1.out HW1.out HL2.out HP.out (by omega) hk2 H3.out HRN2.out) (by have := HM.out; omega)
end Go.Proofs.YtfbmlnkgjgnnhaaGreatDoor
