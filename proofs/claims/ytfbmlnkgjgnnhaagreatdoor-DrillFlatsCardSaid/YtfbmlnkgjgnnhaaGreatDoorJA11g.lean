import Derived.Test.YtfbmlnkgjgnnhaaGreatDoorJA8
import Derived.Lib.QuietBelow
set_option linter.unusedSimpArgs false
set_option linter.unusedVariables false
namespace Go.Proofs.YtfbmlnkgjgnnhaaGreatDoor
open Go.RowKit Go.BigFrame Go.Sort

/-- what wrong reads -/
structure WrongIn (w : World) (Rb g cap Mb b : Nat) (ad : Nat → Nat) (st : Drl.RSt) (x : Drl.Ln) : Prop where
  opn : OpenIn w Rb g cap ad st.ar st.opn
  field : w.cell? ⟨Rb, 1, none⟩ = some (.map (some Mb))
  map : MapIs w Mb ad st.names
  words : WordsIn w b x.ws
  ne : 1 ≤ x.ws.length
  small : ∀ t ∈ x.ws, t.length ≤ 65536

theorem MapIs.next {w w' : World} {M : Nat} {ad : Nat → Nat} {names : List (Drl.Str × Nat)} (h : MapIs w M ad names) (hb : Below w.heap.size w w') : MapIs w' M ad names := by
  obtain ⟨es, c, h1, h2⟩ := h
  exact ⟨es, c, (hb.block M (lt_of h1)).trans h1, h2⟩
theorem WrongIn.next {w w' : World} {Rb g cap Mb b : Nat} {ad : Nat → Nat} {st : Drl.RSt} {x : Drl.Ln} (h : WrongIn w Rb g cap Mb b ad st x) (hb : Below w.heap.size w w') : WrongIn w' Rb g cap Mb b ad st x :=
  ⟨h.opn.next hb, by rw [hb.cell (cell_lt h.field)]; exact h.field, h.map.next hb, (hb.block b (lt_of h.words)).trans h.words, h.ne, h.small⟩
theorem WrongIn.box {w : World} {Rb g cap Mb b : Nat} {ad : Nat → Nat} {st : Drl.RSt} {x : Drl.Ln} (h : WrongIn w Rb g cap Mb b ad st x) (o : Obj) : WrongIn (w.alloc o) Rb g cap Mb b ad st x :=
  h.next ((Below.refl _ w).alloc (Nat.le_refl _) o)
theorem wd_len {ws : List Drl.Str} (h : ∀ t ∈ ws, t.length ≤ 65536) (i : Nat) : (Drl.wd ws i).length ≤ 65536 := by
  unfold Drl.wd
  by_cases hi : i < ws.length
  · simp only [List.getD_eq_getElem?_getD, List.getElem?_eq_getElem hi, Option.getD_some]; exact h _ (List.getElem_mem _)
  · simp only [List.getD_eq_getElem?_getD, List.getElem?_eq_none (Nat.not_lt.1 hi), Option.getD_none]; simp

theorem optPtr_ne {ad : Nat → Nat} {o : Option Nat} : optPtr ad o = match o with | none => .pointer none | some i => .pointer (some ⟨ad i, 0, none⟩) := by cases o <;> rfl

def lnV (x : Drl.Ln) (b : Nat) : Value := .agg #[.int .i64 x.at_, strV x.text, .slice (some ⟨b, 0, none⟩) x.ws.length x.ws.length]

theorem letterB_size {s : ByteArray} (h : Drl.letterB s.data.toList = true) : s.size = 1 := by
  rw [letterB_eq] at h
  by_cases e : s.size = 1
  · exact e
  · rw [dif_neg e] at h; cases h

section
variable (w : World) (Rb g cap Mb b : Nat) (ad : Nat → Nat) (st : Drl.RSt) (x : Drl.Ln)

set_option maxRecDepth 100000
set_option maxHeartbeats 1000000

theorem wrong_other (h : WrongIn w Rb g cap Mb b ad st x) (h1 : Drl.wd x.ws 0 ≠ Drl.wDef) (h2 : Drl.wd x.ws 0 ≠ Drl.wRepeat) (h3 : Drl.wd x.ws 0 ≠ Drl.wFor) (h4 : Drl.wd x.ws 0 ≠ Drl.wUse) :
    Calls Tryz.prog 37 #[.pointer (some ⟨Rb, 0, none⟩), lnV x b] w fun e w' => e = .returned (.int .i64 (Drl.wrongE st x)) ∧ Below w.heap.size w w' := by
  obtain ⟨s0, hs0, _⟩ := h.words.str 0 h.ne
  have c0 : ∀ o, (w.alloc o).cell? ⟨b, 0, none⟩ = some (.string s0) := fun o => by rw [(h.box o).words.cell 0 h.ne, strV_eq hs0]
  have e1 := eq_no hs0 h1
  have e2 := eq_no hs0 h2
  have e3 := eq_no hs0 h3
  have e4 := eq_no hs0 h4
  unfold Drl.wDef at e1
  unfold Drl.wRepeat at e2
  unfold Drl.wFor at e3
  unfold Drl.wUse at e4
  have HF := Lib.hid (show Drl.wrongE st x = 0 by simp [Drl.wrongE, h1, h2, h3, h4])
  have hne := h.ne
  clear h h1 h2 h3 h4 hs0
  unfold lnV strV
  go_enter Tryz.func37, Tryz.ntmps37
  go_wp2_with fail
  go_ret
  exact ⟨ret_int (by rw [HF.out]; rfl), (Below.refl _ w).alloc (Nat.le_refl _) _⟩
theorem wrong_def_len (h : WrongIn w Rb g cap Mb b ad st x) (hw : Drl.wd x.ws 0 = Drl.wDef) (hl : x.ws.length ≠ 2) :
    Calls Tryz.prog 37 #[.pointer (some ⟨Rb, 0, none⟩), lnV x b] w fun e w' => e = .returned (.int .i64 (Drl.wrongE st x)) ∧ Below w.heap.size w w' := by
  obtain ⟨s0, hs0, _⟩ := h.words.str 0 h.ne
  have c0 : ∀ o, (w.alloc o).cell? ⟨b, 0, none⟩ = some (.string s0) := fun o => by rw [(h.box o).words.cell 0 h.ne, strV_eq hs0]
  have edef := eq_yes hs0 hw
  unfold Drl.wDef at edef
  have cB : ∀ v0 v1 v2, (w.alloc (.cells #[v0, v1, v2] 59)).cell? ⟨w.heap.size, 2, none⟩ = some v2 := fun v0 v1 v2 => cell_of (heap_new w _) rfl
  have hbW := (Below.refl w.heap.size w).alloc (Nat.le_refl _) (.cells #[.int .i64 x.at_, .string ⟨x.text.toArray⟩, .slice (some ⟨b, 0, none⟩) x.ws.length x.ws.length] 59)
  have HF := Lib.hid (show Drl.wrongE st x = 291 by simp [-List.headD_eq_head?_getD, Drl.wrongE, hw, hl])
  have el : ((x.ws.length : Int) != 2) = true := by simp [bne]; omega
  have hne := h.ne
  have HX := Lib.hid (h.box (.cells #[.int .i64 x.at_, .string ⟨x.text.toArray⟩, .slice (some ⟨b, 0, none⟩) x.ws.length x.ws.length] 59))
  clear h hw hs0 hl cB
  unfold lnV strV
  go_enter Tryz.func37, Tryz.ntmps37
  go_wp2_with fail
  go_ret
  exact ⟨ret_int (by rw [HF.out]; rfl), hbW⟩

theorem wrong_def_open (h : WrongIn w Rb g cap Mb b ad st x) (hw : Drl.wd x.ws 0 = Drl.wDef) (hl : x.ws.length = 2) (ho : 1 < st.opn.length) :
    Calls Tryz.prog 37 #[.pointer (some ⟨Rb, 0, none⟩), lnV x b] w fun e w' => e = .returned (.int .i64 (Drl.wrongE st x)) ∧ Below w.heap.size w w' := by
  obtain ⟨s0, hs0, _⟩ := h.words.str 0 h.ne
  have c0 : ∀ o, (w.alloc o).cell? ⟨b, 0, none⟩ = some (.string s0) := fun o => by rw [(h.box o).words.cell 0 h.ne, strV_eq hs0]
  have edef := eq_yes hs0 hw
  unfold Drl.wDef at edef
  have cB : ∀ v0 v1 v2, (w.alloc (.cells #[v0, v1, v2] 59)).cell? ⟨w.heap.size, 2, none⟩ = some v2 := fun v0 v1 v2 => cell_of (heap_new w _) rfl
  have hbW := (Below.refl w.heap.size w).alloc (Nat.le_refl _) (.cells #[.int .i64 x.at_, .string ⟨x.text.toArray⟩, .slice (some ⟨b, 0, none⟩) x.ws.length x.ws.length] 59)
  have HF := Lib.hid (show Drl.wrongE st x = 290 by simp [-List.headD_eq_head?_getD, Drl.wrongE, hw, hl, ho])
  have el : ((x.ws.length : Int) != 2) = false := by simp [bne]; omega
  have cf := (h.box (.cells #[.int .i64 x.at_, .string ⟨x.text.toArray⟩, .slice (some ⟨b, 0, none⟩) x.ws.length x.ws.length] 59)).opn.field
  have ho' : (1 : Int) < (st.opn.length : Int) := by omega
  have hne := h.ne
  have HX := Lib.hid (h.box (.cells #[.int .i64 x.at_, .string ⟨x.text.toArray⟩, .slice (some ⟨b, 0, none⟩) x.ws.length x.ws.length] 59))
  clear h hw hs0 hl ho cB
  unfold lnV strV
  go_enter Tryz.func37, Tryz.ntmps37
  go_wp2_with fail
  go_ret
  exact ⟨ret_int (by rw [HF.out]; rfl), hbW⟩

theorem wrong_def_named (h : WrongIn w Rb g cap Mb b ad st x) (hw : Drl.wd x.ws 0 = Drl.wDef) (hl : x.ws.length = 2) (ho : ¬ 1 < st.opn.length) (hn : Drl.namedB (Drl.wd x.ws 1) = false) :
    Calls Tryz.prog 37 #[.pointer (some ⟨Rb, 0, none⟩), lnV x b] w fun e w' => e = .returned (.int .i64 (Drl.wrongE st x)) ∧ Below w.heap.size w w' := by
  obtain ⟨s0, hs0, _⟩ := h.words.str 0 h.ne
  have c0 : ∀ o, (w.alloc o).cell? ⟨b, 0, none⟩ = some (.string s0) := fun o => by rw [(h.box o).words.cell 0 h.ne, strV_eq hs0]
  have i1 : 1 < x.ws.length := by omega
  have i1' : (1 : Int) < (x.ws.length : Int) := by omega
  obtain ⟨s1, hs1, _⟩ := h.words.str 1 i1
  have c1 : ∀ o, (w.alloc o).cell? ⟨b, 1, none⟩ = some (.string s1) := fun o => by rw [(h.box o).words.cell 1 i1, strV_eq hs1]
  have z1 : s1.size ≤ 65536 := by have := wd_len h.small 1; rw [← hs1, size_len] at this; exact this
  have edef := eq_yes hs0 hw
  unfold Drl.wDef at edef
  have cB : ∀ v0 v1 v2, (w.alloc (.cells #[v0, v1, v2] 59)).cell? ⟨w.heap.size, 2, none⟩ = some v2 := fun v0 v1 v2 => cell_of (heap_new w _) rfl
  have hbW := (Below.refl w.heap.size w).alloc (Nat.le_refl _) (.cells #[.int .i64 x.at_, .string ⟨x.text.toArray⟩, .slice (some ⟨b, 0, none⟩) x.ws.length x.ws.length] 59)
  have HF := Lib.hid (show Drl.wrongE st x = 291 by simp [-List.headD_eq_head?_getD, Drl.wrongE, hw, hl, ho, hn])
  have el : ((x.ws.length : Int) != 2) = false := by simp [bne]; omega
  have cf := (h.box (.cells #[.int .i64 x.at_, .string ⟨x.text.toArray⟩, .slice (some ⟨b, 0, none⟩) x.ws.length x.ws.length] 59)).opn.field
  have ho' : ¬ (1 : Int) < (st.opn.length : Int) := by omega
  have HN := Lib.hid (show Drl.namedB s1.data.toList = false by rw [hs1]; exact hn)
  have HS := Lib.hid hs1
  have hne := h.ne
  have HX := Lib.hid (h.box (.cells #[.int .i64 x.at_, .string ⟨x.text.toArray⟩, .slice (some ⟨b, 0, none⟩) x.ws.length x.ws.length] 59))
  clear h hw hs0 hl ho hn hs1
  unfold lnV strV
  go_enter Tryz.func37, Tryz.ntmps37
  go_wp2_with fail
  have cB1 := cB (.int .i64 x.at_) (.string ⟨x.text.toArray⟩) (.slice (some ⟨b, 0, none⟩) x.ws.length x.ws.length)
  have c11 := c1 (.cells #[.int .i64 x.at_, .string ⟨x.text.toArray⟩, .slice (some ⟨b, 0, none⟩) x.ws.length x.ws.length] 59)
  have cm := HX.out.field
  clear cB c0 c1
  generalize hW2 : w.alloc (.cells #[.int .i64 x.at_, .string ⟨x.text.toArray⟩, .slice (some ⟨b, 0, none⟩) x.ws.length x.ws.length] 59) = W at *
  have q0 := fun d os => cell_regrown cB1 d os
  have q1 := fun d os => cell_regrown c11 d os
  have q2 := fun d os => cell_regrown cm d os
  clear hW2 cB1 c11 cm
  refine wp_region_quiet_below (by kernel_rfl) (by kernel_rfl) ?_
  repeat (go_big_quiet_step ((go_at_call 63; exact Calls.regrown_of ((named_any s1 _ (by omega)).mono fun e w' h => ⟨h.1.trans (by rw [HN.out]), h.2⟩))))
  refine wpQuiet_nil ?_
  intro _ hw'
  obtain ⟨⟨dq, osq⟩, hw''⟩ := hw'
  subst hw''
  have hbq := hbW.trans ((below_regrown W dq osq).mono hbW.size)
  go_wp2_with fail
  go_ret
  exact ⟨ret_int (by rw [HF.out]; rfl), hbq⟩

theorem wrong_def_taken (h : WrongIn w Rb g cap Mb b ad st x) (hw : Drl.wd x.ws 0 = Drl.wDef) (hl : x.ws.length = 2) (ho : ¬ 1 < st.opn.length) (hn : Drl.namedB (Drl.wd x.ws 1) = true) (ix : Nat) (hk : Drl.look st.names (Drl.wd x.ws 1) = some ix) :
    Calls Tryz.prog 37 #[.pointer (some ⟨Rb, 0, none⟩), lnV x b] w fun e w' => e = .returned (.int .i64 (Drl.wrongE st x)) ∧ Below w.heap.size w w' := by
  obtain ⟨s0, hs0, _⟩ := h.words.str 0 h.ne
  have c0 : ∀ o, (w.alloc o).cell? ⟨b, 0, none⟩ = some (.string s0) := fun o => by rw [(h.box o).words.cell 0 h.ne, strV_eq hs0]
  have i1 : 1 < x.ws.length := by omega
  have i1' : (1 : Int) < (x.ws.length : Int) := by omega
  obtain ⟨s1, hs1, _⟩ := h.words.str 1 i1
  have c1 : ∀ o, (w.alloc o).cell? ⟨b, 1, none⟩ = some (.string s1) := fun o => by rw [(h.box o).words.cell 1 i1, strV_eq hs1]
  have z1 : s1.size ≤ 65536 := by have := wd_len h.small 1; rw [← hs1, size_len] at this; exact this
  have edef := eq_yes hs0 hw
  unfold Drl.wDef at edef
  have cB : ∀ v0 v1 v2, (w.alloc (.cells #[v0, v1, v2] 59)).cell? ⟨w.heap.size, 2, none⟩ = some v2 := fun v0 v1 v2 => cell_of (heap_new w _) rfl
  have hbW := (Below.refl w.heap.size w).alloc (Nat.le_refl _) (.cells #[.int .i64 x.at_, .string ⟨x.text.toArray⟩, .slice (some ⟨b, 0, none⟩) x.ws.length x.ws.length] 59)
  have HF := Lib.hid (show Drl.wrongE st x = 291 by simp [-List.headD_eq_head?_getD, Drl.wrongE, hw, hl, ho, hn, hk])
  have el : ((x.ws.length : Int) != 2) = false := by simp [bne]; omega
  have cf := (h.box (.cells #[.int .i64 x.at_, .string ⟨x.text.toArray⟩, .slice (some ⟨b, 0, none⟩) x.ws.length x.ws.length] 59)).opn.field
  have ho' : ¬ (1 : Int) < (st.opn.length : Int) := by omega
  have HN := Lib.hid (show Drl.namedB s1.data.toList = true by rw [hs1]; exact hn)
  have HS := Lib.hid hs1
  have HK := Lib.hid hk
  have hne := h.ne
  have HX := Lib.hid (h.box (.cells #[.int .i64 x.at_, .string ⟨x.text.toArray⟩, .slice (some ⟨b, 0, none⟩) x.ws.length x.ws.length] 59))
  clear h hw hs0 hl ho hn hs1 hk
  unfold lnV strV
  go_enter Tryz.func37, Tryz.ntmps37
  go_wp2_with fail
  have cB1 := cB (.int .i64 x.at_) (.string ⟨x.text.toArray⟩) (.slice (some ⟨b, 0, none⟩) x.ws.length x.ws.length)
  have c11 := c1 (.cells #[.int .i64 x.at_, .string ⟨x.text.toArray⟩, .slice (some ⟨b, 0, none⟩) x.ws.length x.ws.length] 59)
  have cm := HX.out.field
  clear cB c0 c1
  generalize hW2 : w.alloc (.cells #[.int .i64 x.at_, .string ⟨x.text.toArray⟩, .slice (some ⟨b, 0, none⟩) x.ws.length x.ws.length] 59) = W at *
  have q0 := fun d os => cell_regrown cB1 d os
  have q1 := fun d os => cell_regrown c11 d os
  have q2 := fun d os => cell_regrown cm d os
  have q3 : ∀ d os, (Instr.lookup 93 (.map (some Mb)) (.string s1) false).run Tryz.prog (grow (redrawn W d) os) = .ok (.pointer (some ⟨ad ix, 0, none⟩)) (grow (redrawn W d) os) := fun d os => by
    rw [lookup_names (HX.out.map.next (below_regrown W d os)) s1, HS.out, HK.out]; rfl
  clear hW2 cB1 c11 cm
  refine wp_region_quiet_below (by kernel_rfl) (by kernel_rfl) ?_
  repeat (go_big_quiet_step ((go_at_call 63; exact Calls.regrown_of ((named_any s1 _ (by omega)).mono fun e w' h => ⟨h.1.trans (by rw [HN.out]), h.2⟩))))
  refine wpQuiet_nil ?_
  intro _ hw'
  obtain ⟨⟨dq, osq⟩, hw''⟩ := hw'
  subst hw''
  have hbq := hbW.trans ((below_regrown W dq osq).mono hbW.size)
  go_wp2_with fail
  go_ret
  exact ⟨ret_int (by rw [HF.out]; rfl), hbq⟩

theorem wrong_def_ok (h : WrongIn w Rb g cap Mb b ad st x) (hw : Drl.wd x.ws 0 = Drl.wDef) (hl : x.ws.length = 2) (ho : ¬ 1 < st.opn.length) (hn : Drl.namedB (Drl.wd x.ws 1) = true) (hk : Drl.look st.names (Drl.wd x.ws 1) = none) :
    Calls Tryz.prog 37 #[.pointer (some ⟨Rb, 0, none⟩), lnV x b] w fun e w' => e = .returned (.int .i64 (Drl.wrongE st x)) ∧ Below w.heap.size w w' := by
  obtain ⟨s0, hs0, _⟩ := h.words.str 0 h.ne
  have c0 : ∀ o, (w.alloc o).cell? ⟨b, 0, none⟩ = some (.string s0) := fun o => by rw [(h.box o).words.cell 0 h.ne, strV_eq hs0]
  have i1 : 1 < x.ws.length := by omega
  have i1' : (1 : Int) < (x.ws.length : Int) := by omega
  obtain ⟨s1, hs1, _⟩ := h.words.str 1 i1
  have c1 : ∀ o, (w.alloc o).cell? ⟨b, 1, none⟩ = some (.string s1) := fun o => by rw [(h.box o).words.cell 1 i1, strV_eq hs1]
  have z1 : s1.size ≤ 65536 := by have := wd_len h.small 1; rw [← hs1, size_len] at this; exact this
  have edef := eq_yes hs0 hw
  unfold Drl.wDef at edef
  have cB : ∀ v0 v1 v2, (w.alloc (.cells #[v0, v1, v2] 59)).cell? ⟨w.heap.size, 2, none⟩ = some v2 := fun v0 v1 v2 => cell_of (heap_new w _) rfl
  have hbW := (Below.refl w.heap.size w).alloc (Nat.le_refl _) (.cells #[.int .i64 x.at_, .string ⟨x.text.toArray⟩, .slice (some ⟨b, 0, none⟩) x.ws.length x.ws.length] 59)
  have HF := Lib.hid (show Drl.wrongE st x = 0 by simp [-List.headD_eq_head?_getD, Drl.wrongE, hw, hl, ho, hn, hk])
  have el : ((x.ws.length : Int) != 2) = false := by simp [bne]; omega
  have cf := (h.box (.cells #[.int .i64 x.at_, .string ⟨x.text.toArray⟩, .slice (some ⟨b, 0, none⟩) x.ws.length x.ws.length] 59)).opn.field
  have ho' : ¬ (1 : Int) < (st.opn.length : Int) := by omega
  have HN := Lib.hid (show Drl.namedB s1.data.toList = true by rw [hs1]; exact hn)
  have HS := Lib.hid hs1
  have HK := Lib.hid hk
  have hne := h.ne
  have HX := Lib.hid (h.box (.cells #[.int .i64 x.at_, .string ⟨x.text.toArray⟩, .slice (some ⟨b, 0, none⟩) x.ws.length x.ws.length] 59))
  clear h hw hs0 hl ho hn hs1 hk
  unfold lnV strV
  go_enter Tryz.func37, Tryz.ntmps37
  go_wp2_with fail
  have cB1 := cB (.int .i64 x.at_) (.string ⟨x.text.toArray⟩) (.slice (some ⟨b, 0, none⟩) x.ws.length x.ws.length)
  have c11 := c1 (.cells #[.int .i64 x.at_, .string ⟨x.text.toArray⟩, .slice (some ⟨b, 0, none⟩) x.ws.length x.ws.length] 59)
  have cm := HX.out.field
  clear cB c0 c1
  generalize hW2 : w.alloc (.cells #[.int .i64 x.at_, .string ⟨x.text.toArray⟩, .slice (some ⟨b, 0, none⟩) x.ws.length x.ws.length] 59) = W at *
  have q0 := fun d os => cell_regrown cB1 d os
  have q1 := fun d os => cell_regrown c11 d os
  have q2 := fun d os => cell_regrown cm d os
  have q3 : ∀ d os, (Instr.lookup 93 (.map (some Mb)) (.string s1) false).run Tryz.prog (grow (redrawn W d) os) = .ok (.pointer none) (grow (redrawn W d) os) := fun d os => by
    rw [lookup_names (HX.out.map.next (below_regrown W d os)) s1, HS.out, HK.out]; rfl
  clear hW2 cB1 c11 cm
  refine wp_region_quiet_below (by kernel_rfl) (by kernel_rfl) ?_
  repeat (go_big_quiet_step ((go_at_call 63; exact Calls.regrown_of ((named_any s1 _ (by omega)).mono fun e w' h => ⟨h.1.trans (by rw [HN.out]), h.2⟩))))
  refine wpQuiet_nil ?_
  intro _ hw'
  obtain ⟨⟨dq, osq⟩, hw''⟩ := hw'
  subst hw''
  have hbq := hbW.trans ((below_regrown W dq osq).mono hbW.size)
  go_wp2_with fail
  go_ret
  exact ⟨ret_int (by rw [HF.out]; rfl), hbq⟩

theorem wrong_rep_len (h : WrongIn w Rb g cap Mb b ad st x) (hw : Drl.wd x.ws 0 = Drl.wRepeat) (hl : x.ws.length ≠ 2) :
    Calls Tryz.prog 37 #[.pointer (some ⟨Rb, 0, none⟩), lnV x b] w fun e w' => e = .returned (.int .i64 (Drl.wrongE st x)) ∧ Below w.heap.size w w' := by
  obtain ⟨s0, hs0, _⟩ := h.words.str 0 h.ne
  have c0 : ∀ o, (w.alloc o).cell? ⟨b, 0, none⟩ = some (.string s0) := fun o => by rw [(h.box o).words.cell 0 h.ne, strV_eq hs0]
  have edef := eq_no hs0 (show Drl.wd x.ws 0 ≠ Drl.wDef by rw [hw]; decide)
  unfold Drl.wDef at edef
  have erepeat := eq_yes hs0 hw
  unfold Drl.wRepeat at erepeat
  have cB : ∀ v0 v1 v2, (w.alloc (.cells #[v0, v1, v2] 59)).cell? ⟨w.heap.size, 2, none⟩ = some v2 := fun v0 v1 v2 => cell_of (heap_new w _) rfl
  have hbW := (Below.refl w.heap.size w).alloc (Nat.le_refl _) (.cells #[.int .i64 x.at_, .string ⟨x.text.toArray⟩, .slice (some ⟨b, 0, none⟩) x.ws.length x.ws.length] 59)
  have HF := Lib.hid (show Drl.wrongE st x = 292 by simp [-List.headD_eq_head?_getD, Drl.wrongE, hw, hl, Drl.wDef, Drl.wRepeat])
  have el : ((x.ws.length : Int) != 2) = true := by simp [bne]; omega
  have hne := h.ne
  have HX := Lib.hid (h.box (.cells #[.int .i64 x.at_, .string ⟨x.text.toArray⟩, .slice (some ⟨b, 0, none⟩) x.ws.length x.ws.length] 59))
  clear h hw hs0 hl cB
  unfold lnV strV
  go_enter Tryz.func37, Tryz.ntmps37
  go_wp2_with fail
  go_ret
  exact ⟨ret_int (by rw [HF.out]; rfl), hbW⟩

theorem wrong_rep_bad (h : WrongIn w Rb g cap Mb b ad st x) (hw : Drl.wd x.ws 0 = Drl.wRepeat) (hl : x.ws.length = 2) (hc1 : Drl.countsB st.ar st.opn (Drl.wd x.ws 1) = false) :
    Calls Tryz.prog 37 #[.pointer (some ⟨Rb, 0, none⟩), lnV x b] w fun e w' => e = .returned (.int .i64 (Drl.wrongE st x)) ∧ Below w.heap.size w w' := by
  obtain ⟨s0, hs0, _⟩ := h.words.str 0 h.ne
  have c0 : ∀ o, (w.alloc o).cell? ⟨b, 0, none⟩ = some (.string s0) := fun o => by rw [(h.box o).words.cell 0 h.ne, strV_eq hs0]
  have i1 : 1 < x.ws.length := by omega
  have i1' : (1 : Int) < (x.ws.length : Int) := by omega
  obtain ⟨s1, hs1, _⟩ := h.words.str 1 i1
  have c1 : ∀ o, (w.alloc o).cell? ⟨b, 1, none⟩ = some (.string s1) := fun o => by rw [(h.box o).words.cell 1 i1, strV_eq hs1]
  have z1 : s1.size ≤ 65536 := by have := wd_len h.small 1; rw [← hs1, size_len] at this; exact this
  have edef := eq_no hs0 (show Drl.wd x.ws 0 ≠ Drl.wDef by rw [hw]; decide)
  unfold Drl.wDef at edef
  have erepeat := eq_yes hs0 hw
  unfold Drl.wRepeat at erepeat
  have cB : ∀ v0 v1 v2, (w.alloc (.cells #[v0, v1, v2] 59)).cell? ⟨w.heap.size, 2, none⟩ = some v2 := fun v0 v1 v2 => cell_of (heap_new w _) rfl
  have hbW := (Below.refl w.heap.size w).alloc (Nat.le_refl _) (.cells #[.int .i64 x.at_, .string ⟨x.text.toArray⟩, .slice (some ⟨b, 0, none⟩) x.ws.length x.ws.length] 59)
  have HF := Lib.hid (show Drl.wrongE st x = 292 by simp [-List.headD_eq_head?_getD, Drl.wrongE, hw, hl, hc1, Drl.wDef, Drl.wRepeat])
  have el : ((x.ws.length : Int) != 2) = false := by simp [bne]; omega
  have HC1 := Lib.hid (show Drl.countsB st.ar st.opn s1.data.toList = false by rw [hs1]; exact hc1)
  have hne := h.ne
  have HX := Lib.hid (h.box (.cells #[.int .i64 x.at_, .string ⟨x.text.toArray⟩, .slice (some ⟨b, 0, none⟩) x.ws.length x.ws.length] 59))
  clear h hw hs0 hl hc1 hs1
  unfold lnV strV
  go_enter Tryz.func37, Tryz.ntmps37
  go_wp2_with fail
  refine (counts_any Rb g cap ad st.ar st.opn s1 _ HX.out.opn).mono ?_
  rintro e w2 ⟨rfl, hbw2⟩
  rw [HC1.out]
  have hB2 := Lib.hid (hbW.trans (hbw2.mono hbW.size))
  clear hbw2
  go_wp2_with fail
  go_ret
  exact ⟨ret_int (by rw [HF.out]; rfl), hB2.out⟩

theorem wrong_rep_ok (h : WrongIn w Rb g cap Mb b ad st x) (hw : Drl.wd x.ws 0 = Drl.wRepeat) (hl : x.ws.length = 2) (hc1 : Drl.countsB st.ar st.opn (Drl.wd x.ws 1) = true) :
    Calls Tryz.prog 37 #[.pointer (some ⟨Rb, 0, none⟩), lnV x b] w fun e w' => e = .returned (.int .i64 (Drl.wrongE st x)) ∧ Below w.heap.size w w' := by
  obtain ⟨s0, hs0, _⟩ := h.words.str 0 h.ne
  have c0 : ∀ o, (w.alloc o).cell? ⟨b, 0, none⟩ = some (.string s0) := fun o => by rw [(h.box o).words.cell 0 h.ne, strV_eq hs0]
  have i1 : 1 < x.ws.length := by omega
  have i1' : (1 : Int) < (x.ws.length : Int) := by omega
  obtain ⟨s1, hs1, _⟩ := h.words.str 1 i1
  have c1 : ∀ o, (w.alloc o).cell? ⟨b, 1, none⟩ = some (.string s1) := fun o => by rw [(h.box o).words.cell 1 i1, strV_eq hs1]
  have z1 : s1.size ≤ 65536 := by have := wd_len h.small 1; rw [← hs1, size_len] at this; exact this
  have edef := eq_no hs0 (show Drl.wd x.ws 0 ≠ Drl.wDef by rw [hw]; decide)
  unfold Drl.wDef at edef
  have erepeat := eq_yes hs0 hw
  unfold Drl.wRepeat at erepeat
  have cB : ∀ v0 v1 v2, (w.alloc (.cells #[v0, v1, v2] 59)).cell? ⟨w.heap.size, 2, none⟩ = some v2 := fun v0 v1 v2 => cell_of (heap_new w _) rfl
  have hbW := (Below.refl w.heap.size w).alloc (Nat.le_refl _) (.cells #[.int .i64 x.at_, .string ⟨x.text.toArray⟩, .slice (some ⟨b, 0, none⟩) x.ws.length x.ws.length] 59)
  have HF := Lib.hid (show Drl.wrongE st x = 0 by simp [-List.headD_eq_head?_getD, Drl.wrongE, hw, hl, hc1, Drl.wDef, Drl.wRepeat])
  have el : ((x.ws.length : Int) != 2) = false := by simp [bne]; omega
  have HC1 := Lib.hid (show Drl.countsB st.ar st.opn s1.data.toList = true by rw [hs1]; exact hc1)
  have hne := h.ne
  have HX := Lib.hid (h.box (.cells #[.int .i64 x.at_, .string ⟨x.text.toArray⟩, .slice (some ⟨b, 0, none⟩) x.ws.length x.ws.length] 59))
  clear h hw hs0 hl hc1 hs1
  unfold lnV strV
  go_enter Tryz.func37, Tryz.ntmps37
  go_wp2_with fail
  refine (counts_any Rb g cap ad st.ar st.opn s1 _ HX.out.opn).mono ?_
  rintro e w2 ⟨rfl, hbw2⟩
  rw [HC1.out]
  have hB2 := Lib.hid (hbW.trans (hbw2.mono hbW.size))
  clear hbw2
  go_wp2_with fail
  go_ret
  exact ⟨ret_int (by rw [HF.out]; rfl), hB2.out⟩

theorem wrong_for_len (h : WrongIn w Rb g cap Mb b ad st x) (hw : Drl.wd x.ws 0 = Drl.wFor) (hl : x.ws.length ≠ 4) :
    Calls Tryz.prog 37 #[.pointer (some ⟨Rb, 0, none⟩), lnV x b] w fun e w' => e = .returned (.int .i64 (Drl.wrongE st x)) ∧ Below w.heap.size w w' := by
  obtain ⟨s0, hs0, _⟩ := h.words.str 0 h.ne
  have c0 : ∀ o, (w.alloc o).cell? ⟨b, 0, none⟩ = some (.string s0) := fun o => by rw [(h.box o).words.cell 0 h.ne, strV_eq hs0]
  have edef := eq_no hs0 (show Drl.wd x.ws 0 ≠ Drl.wDef by rw [hw]; decide)
  unfold Drl.wDef at edef
  have erepeat := eq_no hs0 (show Drl.wd x.ws 0 ≠ Drl.wRepeat by rw [hw]; decide)
  unfold Drl.wRepeat at erepeat
  have efor := eq_yes hs0 hw
  unfold Drl.wFor at efor
  have cB : ∀ v0 v1 v2, (w.alloc (.cells #[v0, v1, v2] 59)).cell? ⟨w.heap.size, 2, none⟩ = some v2 := fun v0 v1 v2 => cell_of (heap_new w _) rfl
  have hbW := (Below.refl w.heap.size w).alloc (Nat.le_refl _) (.cells #[.int .i64 x.at_, .string ⟨x.text.toArray⟩, .slice (some ⟨b, 0, none⟩) x.ws.length x.ws.length] 59)
  have HF := Lib.hid (show Drl.wrongE st x = 293 by simp [-List.headD_eq_head?_getD, Drl.wrongE, hw, hl, Drl.wDef, Drl.wRepeat, Drl.wFor])
  have el : ((x.ws.length : Int) != 4) = true := by simp [bne]; omega
  have hne := h.ne
  have HX := Lib.hid (h.box (.cells #[.int .i64 x.at_, .string ⟨x.text.toArray⟩, .slice (some ⟨b, 0, none⟩) x.ws.length x.ws.length] 59))
  clear h hw hs0 hl cB
  unfold lnV strV
  go_enter Tryz.func37, Tryz.ntmps37
  go_wp2_with fail
  go_ret
  exact ⟨ret_int (by rw [HF.out]; rfl), hbW⟩

theorem wrong_for_let (h : WrongIn w Rb g cap Mb b ad st x) (hw : Drl.wd x.ws 0 = Drl.wFor) (hl : x.ws.length = 4) (hc : Drl.letterB (Drl.wd x.ws 1) = false) :
    Calls Tryz.prog 37 #[.pointer (some ⟨Rb, 0, none⟩), lnV x b] w fun e w' => e = .returned (.int .i64 (Drl.wrongE st x)) ∧ Below w.heap.size w w' := by
  obtain ⟨s0, hs0, _⟩ := h.words.str 0 h.ne
  have c0 : ∀ o, (w.alloc o).cell? ⟨b, 0, none⟩ = some (.string s0) := fun o => by rw [(h.box o).words.cell 0 h.ne, strV_eq hs0]
  have i1 : 1 < x.ws.length := by omega
  have i1' : (1 : Int) < (x.ws.length : Int) := by omega
  obtain ⟨s1, hs1, _⟩ := h.words.str 1 i1
  have c1 : ∀ o, (w.alloc o).cell? ⟨b, 1, none⟩ = some (.string s1) := fun o => by rw [(h.box o).words.cell 1 i1, strV_eq hs1]
  have z1 : s1.size ≤ 65536 := by have := wd_len h.small 1; rw [← hs1, size_len] at this; exact this
  have edef := eq_no hs0 (show Drl.wd x.ws 0 ≠ Drl.wDef by rw [hw]; decide)
  unfold Drl.wDef at edef
  have erepeat := eq_no hs0 (show Drl.wd x.ws 0 ≠ Drl.wRepeat by rw [hw]; decide)
  unfold Drl.wRepeat at erepeat
  have efor := eq_yes hs0 hw
  unfold Drl.wFor at efor
  have cB : ∀ v0 v1 v2, (w.alloc (.cells #[v0, v1, v2] 59)).cell? ⟨w.heap.size, 2, none⟩ = some v2 := fun v0 v1 v2 => cell_of (heap_new w _) rfl
  have hbW := (Below.refl w.heap.size w).alloc (Nat.le_refl _) (.cells #[.int .i64 x.at_, .string ⟨x.text.toArray⟩, .slice (some ⟨b, 0, none⟩) x.ws.length x.ws.length] 59)
  have HF := Lib.hid (show Drl.wrongE st x = 293 by simp [-List.headD_eq_head?_getD, Drl.wrongE, hw, hl, hc, Drl.wDef, Drl.wRepeat, Drl.wFor])
  have el : ((x.ws.length : Int) != 4) = false := by simp [bne]; omega
  have HL := Lib.hid (show Drl.letterB s1.data.toList = false by rw [hs1]; exact hc)
  have hne := h.ne
  have HX := Lib.hid (h.box (.cells #[.int .i64 x.at_, .string ⟨x.text.toArray⟩, .slice (some ⟨b, 0, none⟩) x.ws.length x.ws.length] 59))
  clear h hw hs0 hl hc hs1
  unfold lnV strV
  go_enter Tryz.func37, Tryz.ntmps37
  go_wp2_with fail
  refine (letter_any s1 _).mono ?_
  rintro e w2 ⟨rfl, rfl⟩
  rw [HL.out]
  go_wp2_with fail
  go_ret
  exact ⟨ret_int (by rw [HF.out]; rfl), hbW⟩

theorem wrong_for_around (h : WrongIn w Rb g cap Mb b ad st x) (hw : Drl.wd x.ws 0 = Drl.wFor) (hl : x.ws.length = 4) (hc : Drl.letterB (Drl.wd x.ws 1) = true) (ha : Drl.around st.ar st.opn ((Drl.wd x.ws 1).headD 0) = true) :
    Calls Tryz.prog 37 #[.pointer (some ⟨Rb, 0, none⟩), lnV x b] w fun e w' => e = .returned (.int .i64 (Drl.wrongE st x)) ∧ Below w.heap.size w w' := by
  obtain ⟨s0, hs0, _⟩ := h.words.str 0 h.ne
  have c0 : ∀ o, (w.alloc o).cell? ⟨b, 0, none⟩ = some (.string s0) := fun o => by rw [(h.box o).words.cell 0 h.ne, strV_eq hs0]
  have i1 : 1 < x.ws.length := by omega
  have i1' : (1 : Int) < (x.ws.length : Int) := by omega
  obtain ⟨s1, hs1, _⟩ := h.words.str 1 i1
  have c1 : ∀ o, (w.alloc o).cell? ⟨b, 1, none⟩ = some (.string s1) := fun o => by rw [(h.box o).words.cell 1 i1, strV_eq hs1]
  have z1 : s1.size ≤ 65536 := by have := wd_len h.small 1; rw [← hs1, size_len] at this; exact this
  have edef := eq_no hs0 (show Drl.wd x.ws 0 ≠ Drl.wDef by rw [hw]; decide)
  unfold Drl.wDef at edef
  have erepeat := eq_no hs0 (show Drl.wd x.ws 0 ≠ Drl.wRepeat by rw [hw]; decide)
  unfold Drl.wRepeat at erepeat
  have efor := eq_yes hs0 hw
  unfold Drl.wFor at efor
  have cB : ∀ v0 v1 v2, (w.alloc (.cells #[v0, v1, v2] 59)).cell? ⟨w.heap.size, 2, none⟩ = some v2 := fun v0 v1 v2 => cell_of (heap_new w _) rfl
  have hbW := (Below.refl w.heap.size w).alloc (Nat.le_refl _) (.cells #[.int .i64 x.at_, .string ⟨x.text.toArray⟩, .slice (some ⟨b, 0, none⟩) x.ws.length x.ws.length] 59)
  have HF := Lib.hid (show Drl.wrongE st x = 293 by simp [-List.headD_eq_head?_getD, Drl.wrongE, hw, hl, hc, ha, Drl.wDef, Drl.wRepeat, Drl.wFor])
  have el : ((x.ws.length : Int) != 4) = false := by simp [bne]; omega
  have HL := Lib.hid (show Drl.letterB s1.data.toList = true by rw [hs1]; exact hc)
  have hz1 : s1.size = 1 := letterB_size (by rw [hs1]; exact hc)
  have hh1 : (Drl.wd x.ws 1).headD 0 = s1[0]'(by omega) := by rw [← hs1]; exact head_get s1 (by omega)
  have HA := Lib.hid (show Drl.around st.ar st.opn (s1[0]'(by omega)) = true by rw [← hh1]; exact ha)
  have hne := h.ne
  have HX := Lib.hid (h.box (.cells #[.int .i64 x.at_, .string ⟨x.text.toArray⟩, .slice (some ⟨b, 0, none⟩) x.ws.length x.ws.length] 59))
  clear h hw hs0 hl hc hs1 ha hh1
  unfold lnV strV
  go_enter Tryz.func37, Tryz.ntmps37
  go_wp2_with fail
  refine (letter_any s1 _).mono ?_
  rintro e w2 ⟨rfl, rfl⟩
  rw [HL.out]
  go_wp2_with fail
  refine (around_any_ Rb g cap ad st.ar st.opn (s1[0]'(by omega)) _ HX.out.opn).mono ?_
  rintro e w2 ⟨rfl, rfl⟩
  rw [HA.out]
  go_wp2_with fail
  go_ret
  exact ⟨ret_int (by rw [HF.out]; rfl), hbW⟩

theorem wrong_for_bad2 (h : WrongIn w Rb g cap Mb b ad st x) (hw : Drl.wd x.ws 0 = Drl.wFor) (hl : x.ws.length = 4) (hc : Drl.letterB (Drl.wd x.ws 1) = true) (ha : Drl.around st.ar st.opn ((Drl.wd x.ws 1).headD 0) = false) (hc2 : Drl.countsB st.ar st.opn (Drl.wd x.ws 2) = false) :
    Calls Tryz.prog 37 #[.pointer (some ⟨Rb, 0, none⟩), lnV x b] w fun e w' => e = .returned (.int .i64 (Drl.wrongE st x)) ∧ Below w.heap.size w w' := by
  obtain ⟨s0, hs0, _⟩ := h.words.str 0 h.ne
  have c0 : ∀ o, (w.alloc o).cell? ⟨b, 0, none⟩ = some (.string s0) := fun o => by rw [(h.box o).words.cell 0 h.ne, strV_eq hs0]
  have i1 : 1 < x.ws.length := by omega
  have i1' : (1 : Int) < (x.ws.length : Int) := by omega
  obtain ⟨s1, hs1, _⟩ := h.words.str 1 i1
  have c1 : ∀ o, (w.alloc o).cell? ⟨b, 1, none⟩ = some (.string s1) := fun o => by rw [(h.box o).words.cell 1 i1, strV_eq hs1]
  have z1 : s1.size ≤ 65536 := by have := wd_len h.small 1; rw [← hs1, size_len] at this; exact this
  have i2 : 2 < x.ws.length := by omega
  have i2' : (2 : Int) < (x.ws.length : Int) := by omega
  obtain ⟨s2, hs2, _⟩ := h.words.str 2 i2
  have c2 : ∀ o, (w.alloc o).cell? ⟨b, 2, none⟩ = some (.string s2) := fun o => by rw [(h.box o).words.cell 2 i2, strV_eq hs2]
  have z2 : s2.size ≤ 65536 := by have := wd_len h.small 2; rw [← hs2, size_len] at this; exact this
  have edef := eq_no hs0 (show Drl.wd x.ws 0 ≠ Drl.wDef by rw [hw]; decide)
  unfold Drl.wDef at edef
  have erepeat := eq_no hs0 (show Drl.wd x.ws 0 ≠ Drl.wRepeat by rw [hw]; decide)
  unfold Drl.wRepeat at erepeat
  have efor := eq_yes hs0 hw
  unfold Drl.wFor at efor
  have cB : ∀ v0 v1 v2, (w.alloc (.cells #[v0, v1, v2] 59)).cell? ⟨w.heap.size, 2, none⟩ = some v2 := fun v0 v1 v2 => cell_of (heap_new w _) rfl
  have hbW := (Below.refl w.heap.size w).alloc (Nat.le_refl _) (.cells #[.int .i64 x.at_, .string ⟨x.text.toArray⟩, .slice (some ⟨b, 0, none⟩) x.ws.length x.ws.length] 59)
  have HF := Lib.hid (show Drl.wrongE st x = 292 by simp [-List.headD_eq_head?_getD, Drl.wrongE, hw, hl, hc, ha, hc2, Drl.wDef, Drl.wRepeat, Drl.wFor])
  have el : ((x.ws.length : Int) != 4) = false := by simp [bne]; omega
  have HL := Lib.hid (show Drl.letterB s1.data.toList = true by rw [hs1]; exact hc)
  have hz1 : s1.size = 1 := letterB_size (by rw [hs1]; exact hc)
  have hh1 : (Drl.wd x.ws 1).headD 0 = s1[0]'(by omega) := by rw [← hs1]; exact head_get s1 (by omega)
  have HA := Lib.hid (show Drl.around st.ar st.opn (s1[0]'(by omega)) = false by rw [← hh1]; exact ha)
  have HC2 := Lib.hid (show Drl.countsB st.ar st.opn s2.data.toList = false by rw [hs2]; exact hc2)
  have hne := h.ne
  have HX := Lib.hid (h.box (.cells #[.int .i64 x.at_, .string ⟨x.text.toArray⟩, .slice (some ⟨b, 0, none⟩) x.ws.length x.ws.length] 59))
  clear h hw hs0 hl hc hs1 ha hh1 hs2 hc2
  unfold lnV strV
  go_enter Tryz.func37, Tryz.ntmps37
  go_wp2_with fail
  refine (letter_any s1 _).mono ?_
  rintro e w2 ⟨rfl, rfl⟩
  rw [HL.out]
  go_wp2_with fail
  refine (around_any_ Rb g cap ad st.ar st.opn (s1[0]'(by omega)) _ HX.out.opn).mono ?_
  rintro e w2 ⟨rfl, rfl⟩
  rw [HA.out]
  go_wp2_with fail
  refine (counts_any Rb g cap ad st.ar st.opn s2 _ HX.out.opn).mono ?_
  rintro e w3 ⟨rfl, hbw3⟩
  rw [HC2.out]
  have hB2 := Lib.hid (hbW.trans (hbw3.mono hbW.size))
  clear hbw3
  go_wp2_with fail
  go_ret
  exact ⟨ret_int (by rw [HF.out]; rfl), hB2.out⟩

theorem wrong_for_bad3 (h : WrongIn w Rb g cap Mb b ad st x) (hw : Drl.wd x.ws 0 = Drl.wFor) (hl : x.ws.length = 4) (hc : Drl.letterB (Drl.wd x.ws 1) = true) (ha : Drl.around st.ar st.opn ((Drl.wd x.ws 1).headD 0) = false) (hc2 : Drl.countsB st.ar st.opn (Drl.wd x.ws 2) = true) (hc3 : Drl.countsB st.ar st.opn (Drl.wd x.ws 3) = false) :
    Calls Tryz.prog 37 #[.pointer (some ⟨Rb, 0, none⟩), lnV x b] w fun e w' => e = .returned (.int .i64 (Drl.wrongE st x)) ∧ Below w.heap.size w w' := by
  obtain ⟨s0, hs0, _⟩ := h.words.str 0 h.ne
  have c0 : ∀ o, (w.alloc o).cell? ⟨b, 0, none⟩ = some (.string s0) := fun o => by rw [(h.box o).words.cell 0 h.ne, strV_eq hs0]
  have i1 : 1 < x.ws.length := by omega
  have i1' : (1 : Int) < (x.ws.length : Int) := by omega
  obtain ⟨s1, hs1, _⟩ := h.words.str 1 i1
  have c1 : ∀ o, (w.alloc o).cell? ⟨b, 1, none⟩ = some (.string s1) := fun o => by rw [(h.box o).words.cell 1 i1, strV_eq hs1]
  have z1 : s1.size ≤ 65536 := by have := wd_len h.small 1; rw [← hs1, size_len] at this; exact this
  have i2 : 2 < x.ws.length := by omega
  have i2' : (2 : Int) < (x.ws.length : Int) := by omega
  obtain ⟨s2, hs2, _⟩ := h.words.str 2 i2
  have c2 : ∀ o, (w.alloc o).cell? ⟨b, 2, none⟩ = some (.string s2) := fun o => by rw [(h.box o).words.cell 2 i2, strV_eq hs2]
  have z2 : s2.size ≤ 65536 := by have := wd_len h.small 2; rw [← hs2, size_len] at this; exact this
  have i3 : 3 < x.ws.length := by omega
  have i3' : (3 : Int) < (x.ws.length : Int) := by omega
  obtain ⟨s3, hs3, _⟩ := h.words.str 3 i3
  have c3 : ∀ o, (w.alloc o).cell? ⟨b, 3, none⟩ = some (.string s3) := fun o => by rw [(h.box o).words.cell 3 i3, strV_eq hs3]
  have z3 : s3.size ≤ 65536 := by have := wd_len h.small 3; rw [← hs3, size_len] at this; exact this
  have edef := eq_no hs0 (show Drl.wd x.ws 0 ≠ Drl.wDef by rw [hw]; decide)
  unfold Drl.wDef at edef
  have erepeat := eq_no hs0 (show Drl.wd x.ws 0 ≠ Drl.wRepeat by rw [hw]; decide)
  unfold Drl.wRepeat at erepeat
  have efor := eq_yes hs0 hw
  unfold Drl.wFor at efor
  have cB : ∀ v0 v1 v2, (w.alloc (.cells #[v0, v1, v2] 59)).cell? ⟨w.heap.size, 2, none⟩ = some v2 := fun v0 v1 v2 => cell_of (heap_new w _) rfl
  have hbW := (Below.refl w.heap.size w).alloc (Nat.le_refl _) (.cells #[.int .i64 x.at_, .string ⟨x.text.toArray⟩, .slice (some ⟨b, 0, none⟩) x.ws.length x.ws.length] 59)
  have HF := Lib.hid (show Drl.wrongE st x = 292 by simp [-List.headD_eq_head?_getD, Drl.wrongE, hw, hl, hc, ha, hc2, Drl.wDef, Drl.wRepeat, Drl.wFor, hc3])
  have el : ((x.ws.length : Int) != 4) = false := by simp [bne]; omega
  have HL := Lib.hid (show Drl.letterB s1.data.toList = true by rw [hs1]; exact hc)
  have hz1 : s1.size = 1 := letterB_size (by rw [hs1]; exact hc)
  have hh1 : (Drl.wd x.ws 1).headD 0 = s1[0]'(by omega) := by rw [← hs1]; exact head_get s1 (by omega)
  have HA := Lib.hid (show Drl.around st.ar st.opn (s1[0]'(by omega)) = false by rw [← hh1]; exact ha)
  have HC2 := Lib.hid (show Drl.countsB st.ar st.opn s2.data.toList = true by rw [hs2]; exact hc2)
  have HC3 := Lib.hid (show Drl.countsB st.ar st.opn s3.data.toList = false by rw [hs3]; exact hc3)
  have hne := h.ne
  have HX := Lib.hid (h.box (.cells #[.int .i64 x.at_, .string ⟨x.text.toArray⟩, .slice (some ⟨b, 0, none⟩) x.ws.length x.ws.length] 59))
  clear h hw hs0 hl hc hs1 ha hh1 hs2 hc2 hs3 hc3
  unfold lnV strV
  go_enter Tryz.func37, Tryz.ntmps37
  go_wp2_with fail
  refine (letter_any s1 _).mono ?_
  rintro e w2 ⟨rfl, rfl⟩
  rw [HL.out]
  go_wp2_with fail
  refine (around_any_ Rb g cap ad st.ar st.opn (s1[0]'(by omega)) _ HX.out.opn).mono ?_
  rintro e w2 ⟨rfl, rfl⟩
  rw [HA.out]
  go_wp2_with fail
  refine (counts_any Rb g cap ad st.ar st.opn s2 _ HX.out.opn).mono ?_
  rintro e w3 ⟨rfl, hbw3⟩
  rw [HC2.out]
  have p0 := below_cell hbw3 (cB (.int .i64 x.at_) (.string ⟨x.text.toArray⟩) (.slice (some ⟨b, 0, none⟩) x.ws.length x.ws.length))
  have p3 := below_cell hbw3 (c3 (.cells #[.int .i64 x.at_, .string ⟨x.text.toArray⟩, .slice (some ⟨b, 0, none⟩) x.ws.length x.ws.length] 59))
  have hO3 := Lib.hid (HX.out.opn.next hbw3)
  have hB2 := Lib.hid (hbW.trans (hbw3.mono hbW.size))
  clear hbw3
  go_wp2_with fail
  refine (counts_any Rb g cap ad st.ar st.opn s3 _ hO3.out).mono ?_
  rintro e w4 ⟨rfl, hbw4⟩
  rw [HC3.out]
  have hB3 := Lib.hid (hB2.out.trans (hbw4.mono hB2.out.size))
  clear hbw4
  go_wp2_with fail
  go_ret
  exact ⟨ret_int (by rw [HF.out]; rfl), hB3.out⟩

theorem wrong_for_ok (h : WrongIn w Rb g cap Mb b ad st x) (hw : Drl.wd x.ws 0 = Drl.wFor) (hl : x.ws.length = 4) (hc : Drl.letterB (Drl.wd x.ws 1) = true) (ha : Drl.around st.ar st.opn ((Drl.wd x.ws 1).headD 0) = false) (hc2 : Drl.countsB st.ar st.opn (Drl.wd x.ws 2) = true) (hc3 : Drl.countsB st.ar st.opn (Drl.wd x.ws 3) = true) :
    Calls Tryz.prog 37 #[.pointer (some ⟨Rb, 0, none⟩), lnV x b] w fun e w' => e = .returned (.int .i64 (Drl.wrongE st x)) ∧ Below w.heap.size w w' := by
  obtain ⟨s0, hs0, _⟩ := h.words.str 0 h.ne
  have c0 : ∀ o, (w.alloc o).cell? ⟨b, 0, none⟩ = some (.string s0) := fun o => by rw [(h.box o).words.cell 0 h.ne, strV_eq hs0]
  have i1 : 1 < x.ws.length := by omega
  have i1' : (1 : Int) < (x.ws.length : Int) := by omega
  obtain ⟨s1, hs1, _⟩ := h.words.str 1 i1
  have c1 : ∀ o, (w.alloc o).cell? ⟨b, 1, none⟩ = some (.string s1) := fun o => by rw [(h.box o).words.cell 1 i1, strV_eq hs1]
  have z1 : s1.size ≤ 65536 := by have := wd_len h.small 1; rw [← hs1, size_len] at this; exact this
  have i2 : 2 < x.ws.length := by omega
  have i2' : (2 : Int) < (x.ws.length : Int) := by omega
  obtain ⟨s2, hs2, _⟩ := h.words.str 2 i2
  have c2 : ∀ o, (w.alloc o).cell? ⟨b, 2, none⟩ = some (.string s2) := fun o => by rw [(h.box o).words.cell 2 i2, strV_eq hs2]
  have z2 : s2.size ≤ 65536 := by have := wd_len h.small 2; rw [← hs2, size_len] at this; exact this
  have i3 : 3 < x.ws.length := by omega
  have i3' : (3 : Int) < (x.ws.length : Int) := by omega
  obtain ⟨s3, hs3, _⟩ := h.words.str 3 i3
  have c3 : ∀ o, (w.alloc o).cell? ⟨b, 3, none⟩ = some (.string s3) := fun o => by rw [(h.box o).words.cell 3 i3, strV_eq hs3]
  have z3 : s3.size ≤ 65536 := by have := wd_len h.small 3; rw [← hs3, size_len] at this; exact this
  have edef := eq_no hs0 (show Drl.wd x.ws 0 ≠ Drl.wDef by rw [hw]; decide)
  unfold Drl.wDef at edef
  have erepeat := eq_no hs0 (show Drl.wd x.ws 0 ≠ Drl.wRepeat by rw [hw]; decide)
  unfold Drl.wRepeat at erepeat
  have efor := eq_yes hs0 hw
  unfold Drl.wFor at efor
  have cB : ∀ v0 v1 v2, (w.alloc (.cells #[v0, v1, v2] 59)).cell? ⟨w.heap.size, 2, none⟩ = some v2 := fun v0 v1 v2 => cell_of (heap_new w _) rfl
  have hbW := (Below.refl w.heap.size w).alloc (Nat.le_refl _) (.cells #[.int .i64 x.at_, .string ⟨x.text.toArray⟩, .slice (some ⟨b, 0, none⟩) x.ws.length x.ws.length] 59)
  have HF := Lib.hid (show Drl.wrongE st x = 0 by simp [-List.headD_eq_head?_getD, Drl.wrongE, hw, hl, hc, ha, hc2, Drl.wDef, Drl.wRepeat, Drl.wFor, hc3])
  have el : ((x.ws.length : Int) != 4) = false := by simp [bne]; omega
  have HL := Lib.hid (show Drl.letterB s1.data.toList = true by rw [hs1]; exact hc)
  have hz1 : s1.size = 1 := letterB_size (by rw [hs1]; exact hc)
  have hh1 : (Drl.wd x.ws 1).headD 0 = s1[0]'(by omega) := by rw [← hs1]; exact head_get s1 (by omega)
  have HA := Lib.hid (show Drl.around st.ar st.opn (s1[0]'(by omega)) = false by rw [← hh1]; exact ha)
  have HC2 := Lib.hid (show Drl.countsB st.ar st.opn s2.data.toList = true by rw [hs2]; exact hc2)
  have HC3 := Lib.hid (show Drl.countsB st.ar st.opn s3.data.toList = true by rw [hs3]; exact hc3)
  have hne := h.ne
  have HX := Lib.hid (h.box (.cells #[.int .i64 x.at_, .string ⟨x.text.toArray⟩, .slice (some ⟨b, 0, none⟩) x.ws.length x.ws.length] 59))
  clear h hw hs0 hl hc hs1 ha hh1 hs2 hc2 hs3 hc3
  unfold lnV strV
  go_enter Tryz.func37, Tryz.ntmps37
  go_wp2_with fail
  refine (letter_any s1 _).mono ?_
  rintro e w2 ⟨rfl, rfl⟩
  rw [HL.out]
  go_wp2_with fail
  refine (around_any_ Rb g cap ad st.ar st.opn (s1[0]'(by omega)) _ HX.out.opn).mono ?_
  rintro e w2 ⟨rfl, rfl⟩
  rw [HA.out]
  go_wp2_with fail
  refine (counts_any Rb g cap ad st.ar st.opn s2 _ HX.out.opn).mono ?_
  rintro e w3 ⟨rfl, hbw3⟩
  rw [HC2.out]
  have p0 := below_cell hbw3 (cB (.int .i64 x.at_) (.string ⟨x.text.toArray⟩) (.slice (some ⟨b, 0, none⟩) x.ws.length x.ws.length))
  have p3 := below_cell hbw3 (c3 (.cells #[.int .i64 x.at_, .string ⟨x.text.toArray⟩, .slice (some ⟨b, 0, none⟩) x.ws.length x.ws.length] 59))
  have hO3 := Lib.hid (HX.out.opn.next hbw3)
  have hB2 := Lib.hid (hbW.trans (hbw3.mono hbW.size))
  clear hbw3
  go_wp2_with fail
  refine (counts_any Rb g cap ad st.ar st.opn s3 _ hO3.out).mono ?_
  rintro e w4 ⟨rfl, hbw4⟩
  rw [HC3.out]
  have hB3 := Lib.hid (hB2.out.trans (hbw4.mono hB2.out.size))
  clear hbw4
  go_wp2_with fail
  go_ret
  exact ⟨ret_int (by rw [HF.out]; rfl), hB3.out⟩

theorem wrong_use_len (h : WrongIn w Rb g cap Mb b ad st x) (hw : Drl.wd x.ws 0 = Drl.wUse) (hl : x.ws.length ≠ 2) :
    Calls Tryz.prog 37 #[.pointer (some ⟨Rb, 0, none⟩), lnV x b] w fun e w' => e = .returned (.int .i64 (Drl.wrongE st x)) ∧ Below w.heap.size w w' := by
  obtain ⟨s0, hs0, _⟩ := h.words.str 0 h.ne
  have c0 : ∀ o, (w.alloc o).cell? ⟨b, 0, none⟩ = some (.string s0) := fun o => by rw [(h.box o).words.cell 0 h.ne, strV_eq hs0]
  have edef := eq_no hs0 (show Drl.wd x.ws 0 ≠ Drl.wDef by rw [hw]; decide)
  unfold Drl.wDef at edef
  have erepeat := eq_no hs0 (show Drl.wd x.ws 0 ≠ Drl.wRepeat by rw [hw]; decide)
  unfold Drl.wRepeat at erepeat
  have efor := eq_no hs0 (show Drl.wd x.ws 0 ≠ Drl.wFor by rw [hw]; decide)
  unfold Drl.wFor at efor
  have euse := eq_yes hs0 hw
  unfold Drl.wUse at euse
  have cB : ∀ v0 v1 v2, (w.alloc (.cells #[v0, v1, v2] 59)).cell? ⟨w.heap.size, 2, none⟩ = some v2 := fun v0 v1 v2 => cell_of (heap_new w _) rfl
  have hbW := (Below.refl w.heap.size w).alloc (Nat.le_refl _) (.cells #[.int .i64 x.at_, .string ⟨x.text.toArray⟩, .slice (some ⟨b, 0, none⟩) x.ws.length x.ws.length] 59)
  have HF := Lib.hid (show Drl.wrongE st x = 291 by simp [-List.headD_eq_head?_getD, Drl.wrongE, hw, hl, Drl.wDef, Drl.wRepeat, Drl.wFor, Drl.wUse])
  have el : ((x.ws.length : Int) != 2) = true := by simp [bne]; omega
  have hne := h.ne
  have HX := Lib.hid (h.box (.cells #[.int .i64 x.at_, .string ⟨x.text.toArray⟩, .slice (some ⟨b, 0, none⟩) x.ws.length x.ws.length] 59))
  clear h hw hs0 hl
  unfold lnV strV
  go_enter Tryz.func37, Tryz.ntmps37
  have cB1 := cB (.int .i64 x.at_) (.string ⟨x.text.toArray⟩) (.slice (some ⟨b, 0, none⟩) x.ws.length x.ws.length)
  clear cB
  go_wp2_with fail
  go_quiet (fail)
  have hbq := below_dN hbW nq
  go_wp2_with fail
  go_ret
  exact ⟨ret_int (by rw [HF.out]; rfl), hbq⟩

theorem wrong_use_none (h : WrongIn w Rb g cap Mb b ad st x) (hw : Drl.wd x.ws 0 = Drl.wUse) (hl : x.ws.length = 2) (hk : Drl.look st.names (Drl.wd x.ws 1) = none) :
    Calls Tryz.prog 37 #[.pointer (some ⟨Rb, 0, none⟩), lnV x b] w fun e w' => e = .returned (.int .i64 (Drl.wrongE st x)) ∧ Below w.heap.size w w' := by
  obtain ⟨s0, hs0, _⟩ := h.words.str 0 h.ne
  have c0 : ∀ o, (w.alloc o).cell? ⟨b, 0, none⟩ = some (.string s0) := fun o => by rw [(h.box o).words.cell 0 h.ne, strV_eq hs0]
  have i1 : 1 < x.ws.length := by omega
  have i1' : (1 : Int) < (x.ws.length : Int) := by omega
  obtain ⟨s1, hs1, _⟩ := h.words.str 1 i1
  have c1 : ∀ o, (w.alloc o).cell? ⟨b, 1, none⟩ = some (.string s1) := fun o => by rw [(h.box o).words.cell 1 i1, strV_eq hs1]
  have z1 : s1.size ≤ 65536 := by have := wd_len h.small 1; rw [← hs1, size_len] at this; exact this
  have edef := eq_no hs0 (show Drl.wd x.ws 0 ≠ Drl.wDef by rw [hw]; decide)
  unfold Drl.wDef at edef
  have erepeat := eq_no hs0 (show Drl.wd x.ws 0 ≠ Drl.wRepeat by rw [hw]; decide)
  unfold Drl.wRepeat at erepeat
  have efor := eq_no hs0 (show Drl.wd x.ws 0 ≠ Drl.wFor by rw [hw]; decide)
  unfold Drl.wFor at efor
  have euse := eq_yes hs0 hw
  unfold Drl.wUse at euse
  have cB : ∀ v0 v1 v2, (w.alloc (.cells #[v0, v1, v2] 59)).cell? ⟨w.heap.size, 2, none⟩ = some v2 := fun v0 v1 v2 => cell_of (heap_new w _) rfl
  have hbW := (Below.refl w.heap.size w).alloc (Nat.le_refl _) (.cells #[.int .i64 x.at_, .string ⟨x.text.toArray⟩, .slice (some ⟨b, 0, none⟩) x.ws.length x.ws.length] 59)
  have HF := Lib.hid (show Drl.wrongE st x = 291 by simp [-List.headD_eq_head?_getD, Drl.wrongE, hw, hl, hk, Drl.wDef, Drl.wRepeat, Drl.wFor, Drl.wUse])
  have el : ((x.ws.length : Int) != 2) = false := by simp [bne]; omega
  have HK := Lib.hid hk
  have HS := Lib.hid hs1
  have hne := h.ne
  have HX := Lib.hid (h.box (.cells #[.int .i64 x.at_, .string ⟨x.text.toArray⟩, .slice (some ⟨b, 0, none⟩) x.ws.length x.ws.length] 59))
  clear h hw hs0 hl hs1 hk
  unfold lnV strV
  go_enter Tryz.func37, Tryz.ntmps37
  go_wp2_with fail
  have cB1 := cB (.int .i64 x.at_) (.string ⟨x.text.toArray⟩) (.slice (some ⟨b, 0, none⟩) x.ws.length x.ws.length)
  have c11 := c1 (.cells #[.int .i64 x.at_, .string ⟨x.text.toArray⟩, .slice (some ⟨b, 0, none⟩) x.ws.length x.ws.length] 59)
  have cm := HX.out.field
  clear cB c0 c1
  generalize hW2 : w.alloc (.cells #[.int .i64 x.at_, .string ⟨x.text.toArray⟩, .slice (some ⟨b, 0, none⟩) x.ws.length x.ws.length] 59) = W at *
  have q0 := fun d os => cell_regrown cB1 d os
  have q1 := fun d os => cell_regrown c11 d os
  have q2 := fun d os => cell_regrown cm d os
  have q3 : ∀ d os, (Instr.lookup 93 (.map (some Mb)) (.string s1) false).run Tryz.prog (grow (redrawn W d) os) = .ok (.pointer none) (grow (redrawn W d) os) := fun d os => by
    rw [lookup_names (HX.out.map.next (below_regrown W d os)) s1, HS.out, HK.out]; rfl
  clear hW2 cB1 c11 cm
  refine wp_region_quiet_below (by kernel_rfl) (by kernel_rfl) ?_
  repeat (go_big_quiet_step (fail))
  refine wpQuiet_nil ?_
  intro _ hw'
  obtain ⟨⟨dq, osq⟩, hw''⟩ := hw'
  subst hw''
  have hbq := hbW.trans ((below_regrown W dq osq).mono hbW.size)
  go_wp2_with fail
  go_ret
  exact ⟨ret_int (by rw [HF.out]; rfl), hbq⟩

theorem wrong_use_ok (h : WrongIn w Rb g cap Mb b ad st x) (hw : Drl.wd x.ws 0 = Drl.wUse) (hl : x.ws.length = 2) (ix : Nat) (hk : Drl.look st.names (Drl.wd x.ws 1) = some ix) :
    Calls Tryz.prog 37 #[.pointer (some ⟨Rb, 0, none⟩), lnV x b] w fun e w' => e = .returned (.int .i64 (Drl.wrongE st x)) ∧ Below w.heap.size w w' := by
  obtain ⟨s0, hs0, _⟩ := h.words.str 0 h.ne
  have c0 : ∀ o, (w.alloc o).cell? ⟨b, 0, none⟩ = some (.string s0) := fun o => by rw [(h.box o).words.cell 0 h.ne, strV_eq hs0]
  have i1 : 1 < x.ws.length := by omega
  have i1' : (1 : Int) < (x.ws.length : Int) := by omega
  obtain ⟨s1, hs1, _⟩ := h.words.str 1 i1
  have c1 : ∀ o, (w.alloc o).cell? ⟨b, 1, none⟩ = some (.string s1) := fun o => by rw [(h.box o).words.cell 1 i1, strV_eq hs1]
  have z1 : s1.size ≤ 65536 := by have := wd_len h.small 1; rw [← hs1, size_len] at this; exact this
  have edef := eq_no hs0 (show Drl.wd x.ws 0 ≠ Drl.wDef by rw [hw]; decide)
  unfold Drl.wDef at edef
  have erepeat := eq_no hs0 (show Drl.wd x.ws 0 ≠ Drl.wRepeat by rw [hw]; decide)
  unfold Drl.wRepeat at erepeat
  have efor := eq_no hs0 (show Drl.wd x.ws 0 ≠ Drl.wFor by rw [hw]; decide)
  unfold Drl.wFor at efor
  have euse := eq_yes hs0 hw
  unfold Drl.wUse at euse
  have cB : ∀ v0 v1 v2, (w.alloc (.cells #[v0, v1, v2] 59)).cell? ⟨w.heap.size, 2, none⟩ = some v2 := fun v0 v1 v2 => cell_of (heap_new w _) rfl
  have hbW := (Below.refl w.heap.size w).alloc (Nat.le_refl _) (.cells #[.int .i64 x.at_, .string ⟨x.text.toArray⟩, .slice (some ⟨b, 0, none⟩) x.ws.length x.ws.length] 59)
  have HF := Lib.hid (show Drl.wrongE st x = 0 by simp [-List.headD_eq_head?_getD, Drl.wrongE, hw, hl, hk, Drl.wDef, Drl.wRepeat, Drl.wFor, Drl.wUse])
  have el : ((x.ws.length : Int) != 2) = false := by simp [bne]; omega
  have HK := Lib.hid hk
  have HS := Lib.hid hs1
  have hne := h.ne
  have HX := Lib.hid (h.box (.cells #[.int .i64 x.at_, .string ⟨x.text.toArray⟩, .slice (some ⟨b, 0, none⟩) x.ws.length x.ws.length] 59))
  clear h hw hs0 hl hs1 hk
  unfold lnV strV
  go_enter Tryz.func37, Tryz.ntmps37
  go_wp2_with fail
  have cB1 := cB (.int .i64 x.at_) (.string ⟨x.text.toArray⟩) (.slice (some ⟨b, 0, none⟩) x.ws.length x.ws.length)
  have c11 := c1 (.cells #[.int .i64 x.at_, .string ⟨x.text.toArray⟩, .slice (some ⟨b, 0, none⟩) x.ws.length x.ws.length] 59)
  have cm := HX.out.field
  clear cB c0 c1
  generalize hW2 : w.alloc (.cells #[.int .i64 x.at_, .string ⟨x.text.toArray⟩, .slice (some ⟨b, 0, none⟩) x.ws.length x.ws.length] 59) = W at *
  have q0 := fun d os => cell_regrown cB1 d os
  have q1 := fun d os => cell_regrown c11 d os
  have q2 := fun d os => cell_regrown cm d os
  have q3 : ∀ d os, (Instr.lookup 93 (.map (some Mb)) (.string s1) false).run Tryz.prog (grow (redrawn W d) os) = .ok (.pointer (some ⟨ad ix, 0, none⟩)) (grow (redrawn W d) os) := fun d os => by
    rw [lookup_names (HX.out.map.next (below_regrown W d os)) s1, HS.out, HK.out]; rfl
  clear hW2 cB1 c11 cm
  refine wp_region_quiet_below (by kernel_rfl) (by kernel_rfl) ?_
  repeat (go_big_quiet_step (fail))
  refine wpQuiet_nil ?_
  intro _ hw'
  obtain ⟨⟨dq, osq⟩, hw''⟩ := hw'
  subst hw''
  have hbq := hbW.trans ((below_regrown W dq osq).mono hbW.size)
  go_wp2_with fail
  go_ret
  exact ⟨ret_int (by rw [HF.out]; rfl), hbq⟩

theorem wrong_any (h : WrongIn w Rb g cap Mb b ad st x) :
    Calls Tryz.prog 37 #[.pointer (some ⟨Rb, 0, none⟩), lnV x b] w fun e w' => e = .returned (.int .i64 (Drl.wrongE st x)) ∧ Below w.heap.size w w' := by
  by_cases h1 : Drl.wd x.ws 0 = Drl.wDef
  · by_cases hl : x.ws.length = 2
    · by_cases ho : 1 < st.opn.length
      · exact wrong_def_open w Rb g cap Mb b ad st x h h1 hl ho
      · cases hn : Drl.namedB (Drl.wd x.ws 1) with
        | false => exact wrong_def_named w Rb g cap Mb b ad st x h h1 hl ho hn
        | true =>
          cases hk : Drl.look st.names (Drl.wd x.ws 1) with
          | none => exact wrong_def_ok w Rb g cap Mb b ad st x h h1 hl ho hn hk
          | some ix => exact wrong_def_taken w Rb g cap Mb b ad st x h h1 hl ho hn ix hk
    · exact wrong_def_len w Rb g cap Mb b ad st x h h1 hl
  by_cases h2 : Drl.wd x.ws 0 = Drl.wRepeat
  · by_cases hl : x.ws.length = 2
    · cases hc : Drl.countsB st.ar st.opn (Drl.wd x.ws 1) with
      | false => exact wrong_rep_bad w Rb g cap Mb b ad st x h h2 hl hc
      | true => exact wrong_rep_ok w Rb g cap Mb b ad st x h h2 hl hc
    · exact wrong_rep_len w Rb g cap Mb b ad st x h h2 hl
  by_cases h3 : Drl.wd x.ws 0 = Drl.wFor
  · by_cases hl : x.ws.length = 4
    · cases hc : Drl.letterB (Drl.wd x.ws 1) with
      | false => exact wrong_for_let w Rb g cap Mb b ad st x h h3 hl hc
      | true =>
        cases ha : Drl.around st.ar st.opn ((Drl.wd x.ws 1).headD 0) with
        | true => exact wrong_for_around w Rb g cap Mb b ad st x h h3 hl hc ha
        | false =>
          cases hc2 : Drl.countsB st.ar st.opn (Drl.wd x.ws 2) with
          | false => exact wrong_for_bad2 w Rb g cap Mb b ad st x h h3 hl hc ha hc2
          | true =>
            cases hc3 : Drl.countsB st.ar st.opn (Drl.wd x.ws 3) with
            | false => exact wrong_for_bad3 w Rb g cap Mb b ad st x h h3 hl hc ha hc2 hc3
            | true => exact wrong_for_ok w Rb g cap Mb b ad st x h h3 hl hc ha hc2 hc3
    · exact wrong_for_len w Rb g cap Mb b ad st x h h3 hl
  by_cases h4 : Drl.wd x.ws 0 = Drl.wUse
  · by_cases hl : x.ws.length = 2
    · cases hk : Drl.look st.names (Drl.wd x.ws 1) with
      | none => exact wrong_use_none w Rb g cap Mb b ad st x h h4 hl hk
      | some ix => exact wrong_use_ok w Rb g cap Mb b ad st x h h4 hl ix hk
    · exact wrong_use_len w Rb g cap Mb b ad st x h h4 hl
  exact wrong_other w Rb g cap Mb b ad st x h h1 h2 h3 h4
end
end Go.Proofs.YtfbmlnkgjgnnhaaGreatDoor
