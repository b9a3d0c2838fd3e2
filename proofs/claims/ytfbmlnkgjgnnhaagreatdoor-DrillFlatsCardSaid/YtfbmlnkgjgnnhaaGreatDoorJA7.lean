import Derived.Test.YtfbmlnkgjgnnhaaGreatDoorJA6
import Derived.Test.YtfbmlnkgjgnnhaaGreatDoorJP0
namespace Go.Proofs.YtfbmlnkgjgnnhaaGreatDoor
open Go.RowKit
set_option linter.unusedVariables false

theorem get_idx (s : ByteArray) (i : Nat) (h : i < s.size) : s.get! i = s[i]'h := get_at s i h

theorem decode_conts (s : ByteArray) (pos j : Nat) (h0 : pos < s.size) (h1 : 1 ≤ j) (h2 : j < (Utf8.decode s pos).2) : ∃ h : pos + j < s.size, 128 ≤ (s[pos + j]'h).toNat := by
  have key : pos + j < s.size ∧ (s.get! (pos + j)).toNat / 64 = 2 := by
    revert h2
    simp only [Utf8.decode]
    repeat' split
    all_goals (intro h2; simp only [Bool.and_eq_true, decide_eq_true_eq, beq_iff_eq] at *)
    all_goals (first | omega | skip)
    all_goals
      rcases (show j = 1 ∨ j = 2 ∨ j = 3 by omega) with rfl | rfl | rfl <;> (first | omega | simp_all)
  exact ⟨key.1, by rw [← get_idx s _ key.1]; omega⟩

/-- the bytes that a rune takes hold no line end, but for the line end itself -/
theorem decode_no10 (s : ByteArray) (pos : Nat) (h : pos < s.size) (hr : (Utf8.decode s pos).1 ≠ 10) : ∀ j (hj : j < s.size), pos ≤ j → j < pos + (Utf8.decode s pos).2 → (s[j]'hj).toNat ≠ 10 := by
  intro j hj h1 h2
  by_cases e : j = pos
  · subst e
    rcases decode_cases s j hj with ⟨h3, h4⟩ | ⟨h3, h4⟩
    · rw [h3] at hr; exact hr
    · omega
  · obtain ⟨hh, h3⟩ := decode_conts s pos (j - pos) h (by omega) (by omega)
    have : pos + (j - pos) = j := by omega
    simp only [this] at h3
    omega
theorem decode_in (s : ByteArray) (pos : Nat) (h : pos < s.size) : pos + (Utf8.decode s pos).2 ≤ s.size := by
  have hw := width_pos s pos h
  by_cases e : (Utf8.decode s pos).2 = 1
  · omega
  · obtain ⟨hh, _⟩ := decode_conts s pos ((Utf8.decode s pos).2 - 1) h (by omega) (by omega)
    omega

theorem take_no10 (s : ByteArray) (f k : Nat) (hk : k ≤ s.size) (h : ∀ j (hj : j < s.size), f ≤ j → j < k → (s[j]'hj).toNat ≠ 10) : ∀ x ∈ (s.data.toList.take k).drop f, x ≠ 10 := by
  intro x hx e
  obtain ⟨i, hi, rfl⟩ := List.getElem_of_mem hx
  simp only [List.length_drop, List.length_take, size_len] at hi
  rw [List.getElem_drop, List.getElem_take, get_list s (f + i) (by omega)] at e
  exact h (f + i) (by omega) (by omega) (by omega) (by rw [e]; rfl)
theorem raw_hit (s : ByteArray) (f k : Nat) (hk : k < s.size) (hf : f ≤ k) (h : ∀ j (hj : j < s.size), f ≤ j → j < k → (s[j]'hj).toNat ≠ 10) (h10 : (s[k]'hk).toNat = 10) :
    Drl.rawLines (s.data.toList.drop f) = (s.data.toList.take k).drop f :: Drl.rawLines (s.data.toList.drop (k + 1)) := by
  have e : s.data.toList.drop f = (s.data.toList.take k).drop f ++ 10 :: s.data.toList.drop (k + 1) := by
    have h1 : s.data.toList = s.data.toList.take k ++ (s[k]'hk) :: s.data.toList.drop (k + 1) := by
      rw [← drop_at s k hk, List.take_append_drop]
    have h2 : s[k]'hk = 10 := UInt8.toNat_inj.1 h10
    rw [h2] at h1
    conv => lhs; rw [h1]
    rw [List.drop_append_of_le_length (by rw [List.length_take, size_len]; omega)]
  rw [e, Drl.rawLines_hit _ _ (take_no10 s f k (by omega) h)]
theorem raw_end (s : ByteArray) (f : Nat) (h : ∀ j (hj : j < s.size), f ≤ j → (s[j]'hj).toNat ≠ 10) :
    Drl.rawLines (s.data.toList.drop f) = if s.data.toList.drop f = [] then [] else [s.data.toList.drop f] := by
  apply Drl.rawLines_end
  have := take_no10 s f s.size (Nat.le_refl _) (fun j hj h1 _ => h j hj h1)
  rwa [List.take_of_length_le (by rw [size_len]; exact Nat.le_refl _)] at this
theorem linesFrom_cons (n : Nat) (a : Drl.Str) (r : List Drl.Str) (l : List Drl.Ln) : l ++ Drl.linesFrom n (a :: r) = putL l n (Drl.trim a) ++ Drl.linesFrom (n + 1) r := by
  unfold putL
  rw [Drl.linesFrom]
  split <;> simp
theorem putL_len (l : List Drl.Ln) (n : Nat) (s : Drl.Str) : (putL l n s).length ≤ l.length + 1 := by
  unfold putL; split <;> simp

theorem extract_list (s : ByteArray) (a b : Nat) (h : b ≤ s.size) : (s.extract a b).data.toList = (s.data.toList.take b).drop a := by
  rw [Lib.extract_data, List.drop_take]

/-- what holds at the head of each round -/
structure LinesAt (s : ByteArray) (w wr : World) (k f n : Nat) (l : List Drl.Ln) : Prop where
  hk : k ≤ s.size
  hf : f ≤ k
  hn : n ≤ f
  hl : l.length ≤ n
  it : wr.heap[w.heap.size + 2]? = some (.stringIter s k)
  put : PutIn w.heap.size w.heap.size (w.heap.size + 1) wr l n
  keep : Below w.heap.size w wr
  no : ∀ j (hj : j < s.size), f ≤ j → j < k → (s[j]'hj).toNat ≠ 10
  sum : l ++ Drl.linesFrom n (Drl.rawLines (s.data.toList.drop f)) = Drl.lines s.data.toList


theorem PutIn.keep {B Lb Ab : Nat} {w w' : World} {l : List Drl.Ln} {n : Nat} {S : Nat → Prop} (h : PutIn B Lb Ab w l n) (hk : Keep S (fun _ => False) w w') (hS : ∀ b c e fz, w.heap[b]? = some (.cells c e fz) → ¬ S b) : PutIn B Lb Ab w' l n := by
  obtain ⟨⟨lv, hL, cs, hown, hcs⟩, hA⟩ := h
  exact ⟨⟨lv, hk.cells hL (hS _ _ _ _ hL) id, cs, ownsRow_keep hown hk (fun b c fz h => hS b c _ fz h) id, LineCells.imp (fun v ws h => h.keep hk (fun b c fz h => hS b c _ fz h) id) hcs⟩, hk.cells hA (hS _ _ _ _ hA) id⟩

theorem PutIn.iterAt {B Lb Ab : Nat} {w : World} {l : List Drl.Ln} {n : Nat} (h : PutIn B Lb Ab w l n) {k : Nat} {s : ByteArray} {p : Nat} (hk : w.heap[k]? = some (.stringIter s p)) (p' : Nat) : PutIn B Lb Ab (w.iterAt k s p') l n :=
  h.keep ((Keep.refl (fun b => b = k) (fun _ => False) w).iterAt k rfl s p') fun b c e fz hb e1 => by subst e1; rw [hk] at hb; cases hb

theorem LinesAt.skip {s : ByteArray} {w wr : World} {k f n : Nat} {l : List Drl.Ln} (h : LinesAt s w wr k f n l) (hp : k < s.size) (h10 : (Utf8.decode s k).1 ≠ 10) :
    LinesAt s w (wr.iterAt (w.heap.size + 2) s (k + (Utf8.decode s k).2)) (k + (Utf8.decode s k).2) f n l := by
  have hin := decode_in s k hp
  refine ⟨hin, by have := h.hf; omega, h.hn, h.hl, Lib.iterAt_heap _ _ _ k _ h.it, h.put.iterAt h.it _, Lib.below_iterAt h.keep (by omega) _ _, ?_, h.sum⟩
  intro j hj h1 h2
  by_cases e : j < k
  · exact h.no j hj h1 e
  · exact decode_no10 s k hp h10 j hj (by omega) h2

theorem LinesAt.line {s : ByteArray} {w wr w' : World} {k f n : Nat} {l : List Drl.Ln} (h : LinesAt s w wr k f n l) (hp : k < s.size) (h10 : (Utf8.decode s k).1 = 10)
    (hput : PutIn w.heap.size w.heap.size (w.heap.size + 1) w' (putL l n (Drl.trim (s.extract f k).data.toList)) (n + 1))
    (hk : Keep (fun b => b = w.heap.size ∨ b = w.heap.size + 1) (fun e => e = 59) (wr.iterAt (w.heap.size + 2) s (k + 1)) w') (hb : Below w.heap.size (wr.iterAt (w.heap.size + 2) s (k + 1)) w') :
    LinesAt s w w' (k + 1) (k + 1) (n + 1) (putL l n (Drl.trim (s.extract f k).data.toList)) := by
  have hd : (s[k]'hp).toNat = 10 := by
    rcases decode_cases s k hp with ⟨h3, h4⟩ | ⟨h3, h4⟩
    · rw [h3] at h10; exact h10
    · omega
  refine ⟨by omega, Nat.le_refl _, by have := h.hn; have := h.hf; omega, by have := putL_len l n (Drl.trim (s.extract f k).data.toList); have := h.hl; omega, ?_, hput, (Lib.below_iterAt h.keep (k := w.heap.size + 2) (by omega) _ _).trans hb, fun j _ h1 h2 => by omega, ?_⟩
  · exact hk.iter (Lib.iterAt_heap _ _ _ k _ h.it) (by omega)
  · rw [← h.sum, raw_hit s f k hp h.hf h.no hd, linesFrom_cons, extract_list s f k (by omega)]

set_option maxRecDepth 100000 in
set_option maxHeartbeats 1000000 in
theorem lines_any (s : ByteArray) (w : World) (hE : Env w) (hs : s.size ≤ 65536) :
    Calls Tryz.prog 19 #[.string s] w fun e w' => ∃ lv, e = .returned lv ∧ LinesOwn w' w.heap.size lv (Drl.lines s.data.toList) ∧ Below w.heap.size w w' := by
  have hsz := hE.size
  go_enter Tryz.func19, Tryz.ntmps19
  go_wp2_with fail
  go_loopw [5] (fun i wr => ∃ (k f n : Nat) (l : List Drl.Ln), i = .int .i64 f ∧ LinesAt s w wr k f n l) (fun _ wr => s.size - wr.iterPos (w.heap.size + 2))
  case atStart =>
    refine ⟨0, 0, 0, [], rfl, ⟨by omega, by omega, by omega, by simp, ?_, ⟨⟨.slice none 0 0, ?_, [], World.ownsRow_nil _ _ _ _, trivial⟩, ?_⟩, ?_, fun _ _ _ h => by omega, ?_⟩⟩
    · have := World.iter_heap ((w.alloc (.cells #[.slice none 0 0] 46)).alloc (.cells #[.int .i64 0] 3)) s 0
      simpa using this
    · exact heap_old (heap_old (heap_new w _))
    · exact heap_old (heap_new2 w _ _)
    · exact ((Below.refl _ w).alloc (Nat.le_refl _) _ |>.alloc (by simp) _ |>.alloc (by simp; omega) _)
    · simp [Drl.lines]
  case round =>
    obtain ⟨k, f, n, l, rfl, hR⟩ := hrel
    have HR := Lib.hid hR
    have hk := hR.hk
    have hf := hR.hf
    by_cases hp : k < s.size
    · have hnx : ∀ ty, (Instr.next (.pointer (some ⟨w.heap.size + 2, 0, none⟩)) true ty).run Tryz.prog wr = _ := fun ty => Lib.run_next_any_at wr (w.heap.size + 2) s k ty hR.it hp
      have hle := decode_le s k
      have hin := decode_in s k hp
      have hw := width_pos s k hp
      clear hR
      by_cases h10 : (Utf8.decode s k).1 = 10
      · have hd : Utf8.decode s k = (10, 1) := by
          rcases decode_cases s k hp with ⟨h3, h4⟩ | ⟨h3, h4⟩
          · rw [h3] at h10 ⊢; rw [← h10]
          · omega
        have e10 : (((Utf8.decode s k).1 : Int) == 10) = true := by rw [hd]; rfl
        have HD := Lib.hid hd
        have H10 := Lib.hid h10
        clear hd h10
        have hI := HR.out.put.iterAt HR.out.it (k + (Utf8.decode s k).2)
        have HI := Lib.hid hI
        have hnl : n ≤ 65536 ∧ l.length ≤ 65536 := by have := HR.out.hn; have := HR.out.hl; omega
        have hEr : Env (wr.iterAt (w.heap.size + 2) s (k + (Utf8.decode s k).2)) := (hE.next HR.out.keep).keep (by rw [Lib.iterAt_size]; exact Nat.le_refl _) (fun j hj => Lib.iterAt_other _ _ _ _ _ (by omega))
        have hB : w.heap.size ≤ (wr.iterAt (w.heap.size + 2) s (k + (Utf8.decode s k).2)).heap.size := by rw [Lib.iterAt_size]; exact HR.out.keep.size
        have hex : (s.extract f k).size ≤ 65536 := by simp; omega
        clear hI
        go_wp2_with fail
        refine (put_any (s.extract f k) w.heap.size w.heap.size (w.heap.size + 1) l n _ hEr hex hnl.1 hnl.2 hB (Nat.le_refl _) (by omega) HI.out).mono ?_
        rintro e w' ⟨rfl, hput, hkeep, hbel⟩
        rw [HD.out] at hkeep hbel
        have HP := Lib.hid (HR.out.line hp H10.out hput hkeep hbel)
        have hit := HR.out.it
        have HT := Lib.hid hit
        clear hput hkeep hbel hit
        go_wp2_with fail
        go_roundw
        case rel => exact ⟨_, _, _, _, by go_num, HP.out⟩
        case measure =>
          have h1 := HP.out.it
          have h2 := HT.out
          simp only [World.iterPos, h1, h2]
          omega
      · have e10 : (((Utf8.decode s k).1 : Int) == 10) = false := by simp; omega
        have H10 := Lib.hid h10
        clear h10
        go_wp2_with fail
        go_roundw
        case rel => exact ⟨_, _, _, _, rfl, HR.out.skip hp H10.out⟩
        case measure =>
          have h1 := Lib.iterAt_heap wr _ s k (k + (Utf8.decode s k).2) HR.out.it
          have h2 := HR.out.it
          simp only [World.iterPos, h1, h2]
          omega
    · have hnx : ∀ ty, (Instr.next (.pointer (some ⟨w.heap.size + 2, 0, none⟩)) true ty).run Tryz.prog wr = _ := fun ty => Lib.run_next_end_at wr (w.heap.size + 2) s k ty hR.it hp
      clear hR
      have hkk : k = s.size := by omega
      have HK := Lib.hid hkk
      clear hkk
      by_cases hfs : f < s.size
      · have hnl : n ≤ 65536 ∧ l.length ≤ 65536 := by have := HR.out.hn; have := HR.out.hl; omega
        have hEr : Env wr := hE.next HR.out.keep
        have hex : (s.extract f s.size).size ≤ 65536 := by simp; omega
        have hno : ∀ j (hj : j < s.size), f ≤ j → (s[j]'hj).toNat ≠ 10 := fun j hj h1 => HR.out.no j hj h1 (by rw [HK.out]; exact hj)
        have hfin : putL l n (Drl.trim (s.extract f s.size).data.toList) = Drl.lines s.data.toList := by
          rw [← HR.out.sum, raw_end s f hno, if_neg (by intro e; have := congrArg List.length e; simp at this; omega), linesFrom_cons, extract_list s f s.size (Nat.le_refl _)]
          rw [List.take_of_length_le (by rw [size_len]; exact Nat.le_refl _)]
          simp [Drl.linesFrom]
        have HF := Lib.hid hfin
        clear hfin hno
        go_wp2_with fail
        refine (put_any (s.extract f s.size) w.heap.size w.heap.size (w.heap.size + 1) l n _ hEr hex hnl.1 hnl.2 HR.out.keep.size (Nat.le_refl _) (by omega) HR.out.put).mono ?_
        rintro e w' ⟨rfl, hput, hkeep, hbel⟩
        rw [HF.out] at hput
        obtain ⟨⟨lv, hL, hown⟩, _⟩ := hput
        have hc := cell_one hL
        have HO := Lib.hid hown
        have HB := Lib.hid (HR.out.keep.trans hbel)
        clear hL hown hkeep hbel
        go_wp2_with fail
        go_ret
        exact ⟨lv, rfl, HO.out, HB.out⟩
      · have hfin : l = Drl.lines s.data.toList := by
          rw [← HR.out.sum, drop_end s f (by omega)]
          simp [Drl.rawLines, Drl.cutAt, Drl.linesFrom]
        have HF := Lib.hid hfin
        clear hfin
        obtain ⟨⟨lv, hL, hown⟩, _⟩ := HR.out.put
        have hc := cell_one hL
        have HO := Lib.hid hown
        clear hL hown
        go_wp2_with fail
        go_ret
        refine ⟨lv, rfl, ?_, HR.out.keep⟩
        rw [← HF.out]; exact HO.out
end Go.Proofs.YtfbmlnkgjgnnhaaGreatDoor
