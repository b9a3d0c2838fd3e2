import Derived.Test.YtfbmlnkgjgnnhaaGreatDoorJA5
import Derived.Test.YtfbmlnkgjgnnhaaGreatDoorJK0
import Derived.Test.YtfbmlnkgjgnnhaaGreatDoorJP0
import Derived.Deep.AppendLies
import Derived.Deep.RegionLaw
namespace Go.Proofs.YtfbmlnkgjgnnhaaGreatDoor
open Go.RowKit

def strV (t : Drl.Str) : Value := .string ⟨t.toArray⟩
theorem strV_data (s : ByteArray) : strV s.data.toList = .string s := by cases s; simp [strV]

/-- a slice of words, known whole -/
def WordsAt (w : World) (v : Value) (ws : List Drl.Str) : Prop :=
  ∃ b, v = .slice (some ⟨b, 0, none⟩) ws.length ws.length ∧ w.heap[b]? = some (.cells (ws.map strV).toArray 9 (0, 0))
theorem WordsAt.keep {S : Nat → Prop} {es : TypeId → Prop} {w w' : World} {v : Value} {ws : List Drl.Str} (h : WordsAt w v ws) (hk : Keep S es w w') (hS : ∀ b c fz, w.heap[b]? = some (.cells c 9 fz) → ¬ S b) (he : ¬ es 9) : WordsAt w' v ws := by
  obtain ⟨b, hv, hb⟩ := h
  exact ⟨b, hv, hk.cells hb (hS b _ _ hb) he⟩

/-- the cells of lines -/
def LineCells (w : World) : List Value → List Drl.Ln → Prop
  | [], [] => True
  | c0 :: c1 :: c2 :: r, x :: l => c0 = .int .i64 x.at_ ∧ c1 = strV x.text ∧ WordsAt w c2 x.ws ∧ LineCells w r l
  | _, _ => False
theorem LineCells.imp {w w' : World} (h : ∀ v ws, WordsAt w v ws → WordsAt w' v ws) : ∀ {cs : List Value} {l : List Drl.Ln}, LineCells w cs l → LineCells w' cs l
  | [], [], _ => trivial
  | c0 :: c1 :: c2 :: r, x :: l, ⟨h0, h1, h2, h3⟩ => ⟨h0, h1, h _ _ h2, LineCells.imp h h3⟩
  | [], _ :: _, h => h.elim
  | [_], _, h => by simp [LineCells] at h
  | [_, _], _, h => by simp [LineCells] at h
  | _ :: _ :: _ :: _, [], h => by simp [LineCells] at h
theorem LineCells.snoc {w : World} {c0 c1 c2 : Value} {x : Drl.Ln} (h0 : c0 = .int .i64 x.at_) (h1 : c1 = strV x.text) (h2 : WordsAt w c2 x.ws) : ∀ {cs : List Value} {l : List Drl.Ln}, LineCells w cs l → LineCells w (cs ++ [c0, c1, c2]) (l ++ [x])
  | [], [], _ => ⟨h0, h1, h2, trivial⟩
  | d0 :: d1 :: d2 :: r, y :: l, ⟨g0, g1, g2, g3⟩ => ⟨g0, g1, g2, LineCells.snoc h0 h1 h2 g3⟩
  | [], _ :: _, h => h.elim
  | [_], _, h => by simp [LineCells] at h
  | [_, _], _, h => by simp [LineCells] at h
  | _ :: _ :: _ :: _, [], h => by simp [LineCells] at h

/-- a slice of lines that the call owns -/
def LinesOwn (w : World) (B : Nat) (v : Value) (l : List Drl.Ln) : Prop := ∃ cs, w.ownsRow B 59 3 v l.length cs ∧ LineCells w cs l

theorem split_any (s : ByteArray) (w : World) (hE : Env w) (hs : s.size ≤ 65536) :
    Calls Tryz.prog 35 #[.string s, .string ⟨#[32]⟩] w fun e w' => e = .returned (.slice (some ⟨w.heap.size, 0, none⟩) (Drl.words s.data.toList).length (Drl.words s.data.toList).length) ∧ w' = w.alloc (.cells ((Drl.words s.data.toList).map strV).toArray 9) := by
  obtain ⟨m, hm⟩ := hE.maxLen
  refine (Tryz.strings_Split s ⟨#[32]⟩ m w (by omega) hm (by decide)).mono ?_
  rintro e w' ⟨rfl, rfl⟩
  have h := Drl.split_words s
  have hl : (Drl.words s.data.toList).length = Lib.countB s ⟨#[32]⟩ + 1 := by
    rw [← h, List.length_map, Lib.splitB_all _ (by decide) _ _ _ rfl]
  refine ⟨by rw [hl], ?_⟩
  rw [← h, List.map_map]
  rfl

theorem trimLeft_any (s : ByteArray) (w : World) :
    Calls Tryz.prog 34 #[.string s, .string ⟨#[32]⟩] w fun e w' => e = .returned (strV (Drl.trim s.data.toList)) ∧ w = w' := by
  refine (Tryz.strings_TrimLeft_one s 32 (by decide) w).mono ?_
  rintro e w' ⟨rfl, rfl⟩
  exact ⟨rfl, rfl⟩

theorem info_line : (Tryz.prog.info? 59).map (fun i => (i.zero, i.size, i.bytes)) = some (some (.agg #[.int .i64 0, .string ⟨#[]⟩, .slice none 0 0]), 3, 48) := by kernel_rfl

theorem linesOwn_len {w : World} : ∀ {cs : List Value} {l : List Drl.Ln}, LineCells w cs l → cs.length = l.length * 3
  | [], [], _ => rfl
  | c0 :: c1 :: c2 :: r, x :: l, ⟨_, _, _, h3⟩ => by have := linesOwn_len h3; simp; omega
  | [], _ :: _, h => h.elim
  | [_], _, h => by simp [LineCells] at h
  | [_, _], _, h => by simp [LineCells] at h
  | _ :: _ :: _ :: _, [], h => by simp [LineCells] at h

theorem says_no (t : ByteArray) (h : t.size = 0) : Drl.says t.data.toList = false := by
  have : t.data.toList = [] := List.eq_nil_of_length_eq_zero (by rw [size_len]; exact h)
  rw [this]; rfl
theorem says_yes (t : ByteArray) (h : 0 < t.size) : Drl.says t.data.toList = !decide ((t[0]'h).toNat = 35) := by
  rw [← head_get t h]
  cases ht : t.data.toList with
  | nil => have := size_len t; rw [ht] at this; simp at this; omega
  | cons c r => rfl
theorem trim_len (s : Drl.Str) : (Drl.trim s).length ≤ s.length := by
  unfold Drl.trim
  exact (List.dropWhile_suffix _).length_le

/-- the lines behind a text's next line -/
def putL (l : List Drl.Ln) (at_ : Nat) (s : Drl.Str) : List Drl.Ln := if Drl.says s then l ++ [Drl.mkLn at_ s] else l
theorem putL_no {l : List Drl.Ln} {at_ : Nat} {s : Drl.Str} (h : Drl.says s = false) : putL l at_ s = l := by simp [putL, h]
theorem putL_yes {l : List Drl.Ln} {at_ : Nat} {s : Drl.Str} (h : Drl.says s = true) : putL l at_ s = l ++ [Drl.mkLn at_ s] := by simp [putL, h]
/-- what put leaves -/
structure PutIn (B Lb Ab : Nat) (w : World) (l : List Drl.Ln) (at_ : Nat) : Prop where
  ex : ∃ lv, w.heap[Lb]? = some (.cells #[lv] 46 (0, 0)) ∧ LinesOwn w B lv l
  at' : w.heap[Ab]? = some (.cells #[.int .i64 at_] 3 (0, 0))


theorem put_store {B Lb Ab : Nat} {w : World} {l : List Drl.Ln} {at_ : Nat} (hI : PutIn B Lb Ab w l at_) : PutIn B Lb Ab (w.setCell ⟨Ab, 0, none⟩ (.int .i64 (at_ + 1))) l (at_ + 1) := by
  obtain ⟨⟨lv, hLb, cs, hown, hcs⟩, hAb⟩ := hI
  have hne : Lb ≠ Ab := ne_of_type hLb hAb (by decide)
  have hk : Keep (fun k => k = Ab) (fun _ => False) w (w.setCell ⟨Ab, 0, none⟩ (.int .i64 (at_ + 1))) := (Keep.refl (fun k => k = Ab) (fun _ => False) w).setCell ⟨Ab, 0, none⟩ rfl _
  refine ⟨⟨lv, ?_, cs, ?_, ?_⟩, ?_⟩
  · rw [heap_set_other hne]; exact hLb
  · exact ownsRow_keep hown hk (fun b c fz h e => ne_of_type h hAb (by decide) e) id
  · exact LineCells.imp (fun v ws h => h.keep hk (fun b c fz h e => ne_of_type h hAb (by decide) e) id) hcs
  · rw [heap_set hAb]; rfl


theorem put_end {B Lb Ab : Nat} {w w1 : World} {l : List Drl.Ln} {at_ : Nat} {lv v' : Value} {cs : List Value} {t : Drl.Str}
    (hLb : w.heap[Lb]? = some (.cells #[lv] 46 (0, 0))) (hAb : w.heap[Ab]? = some (.cells #[.int .i64 at_] 3 (0, 0)))
    (hown : w.ownsRow B 59 3 lv l.length cs) (hcs : LineCells w cs l)
    (hgrow : ((w.alloc (.cells ((Drl.words t).map strV).toArray 9)).alloc (.cells #[.int .i64 at_, strV t, .slice (some ⟨w.heap.size, 0, none⟩) (Drl.words t).length (Drl.words t).length] 59)).drew.grownBy w1 lv.ownBlock)
    (hown1 : w1.ownsRow B 59 3 v' (l.length + 1) (cs ++ [.int .i64 at_, strV t, .slice (some ⟨w.heap.size, 0, none⟩) (Drl.words t).length (Drl.words t).length])) :
    PutIn B Lb Ab ((w1.setCell ⟨Lb, 0, none⟩ v').setCell ⟨Ab, 0, none⟩ (.int .i64 (at_ + 1))) (l ++ [Drl.mkLn at_ t]) (at_ + 1) ∧
      Keep (fun k => k = Lb ∨ k = Ab) (fun e => e = 59) w ((w1.setCell ⟨Lb, 0, none⟩ v').setCell ⟨Ab, 0, none⟩ (.int .i64 (at_ + 1))) := by
  have hrow : ∀ g, lv.ownBlock = some g → ∃ cs fz, w.heap[g]? = some (.cells cs 59 fz) := fun g hg => by
    obtain ⟨c, fz, h, _⟩ := ownsRow_row hown g hg
    exact ⟨c, fz, h⟩
  have nL : lv.ownBlock ≠ some Lb := fun e => by
    obtain ⟨cs', fz, hh⟩ := hrow Lb e
    exact ne_of_type hh hLb (by decide) rfl
  have nA : lv.ownBlock ≠ some Ab := fun e => by
    obtain ⟨cs', fz, hh⟩ := hrow Ab e
    exact ne_of_type hh hAb (by decide) rfl
  have hL1 : w1.heap[Lb]? = some (.cells #[lv] 46 (0, 0)) := grown_heap hgrow (heap_old (heap_old hLb)) nL
  have hA1 : w1.heap[Ab]? = some (.cells #[.int .i64 at_] 3 (0, 0)) := grown_heap hgrow (heap_old (heap_old hAb)) nA
  have hne : Lb ≠ Ab := ne_of_type hLb hAb (by decide)
  have k1 : Keep (fun _ => False) (fun e => e = 59) w w1 := ((((Keep.refl _ _ w).alloc _).alloc _).drew).grown hgrow fun g hg => by
    obtain ⟨c, fz, h⟩ := hrow g hg
    exact .inr ⟨c, _, fz, heap_old (heap_old h), rfl⟩
  have k2 : Keep (fun k => k = Lb ∨ k = Ab) (fun _ => False) w1 ((w1.setCell ⟨Lb, 0, none⟩ v').setCell ⟨Ab, 0, none⟩ (.int .i64 (at_ + 1))) :=
    ((Keep.refl (fun k => k = Lb ∨ k = Ab) (fun _ => False) w1).setCell ⟨Lb, 0, none⟩ (.inl rfl) _).setCell ⟨Ab, 0, none⟩ (.inr rfl) _
  have hS : ∀ (b : Nat) (c : Array Value) (e : TypeId) (fz : Nat × Nat), w1.heap[b]? = some (.cells c e fz) → e ≠ 46 → e ≠ 3 → ¬ (b = Lb ∨ b = Ab) := by
    rintro b c e fz h h1 h2 (rfl | rfl)
    · exact ne_of_type h hL1 h1 rfl
    · exact ne_of_type h hA1 h2 rfl
  refine ⟨⟨⟨v', ?_, cs ++ [.int .i64 at_, strV t, .slice (some ⟨w.heap.size, 0, none⟩) (Drl.words t).length (Drl.words t).length], ?_, ?_⟩, ?_⟩, ?_⟩
  · rw [heap_set_other hne, heap_set hL1]; rfl
  · rw [List.length_append, List.length_singleton]
    exact ownsRow_keep hown1 k2 (fun b c fz h => hS b c _ fz h (by decide) (by decide)) id
  · refine LineCells.snoc (x := Drl.mkLn at_ t) rfl rfl ?_ (LineCells.imp (fun v ws h => (h.keep k1 (fun _ _ _ _ => id) (by decide)).keep k2 (fun b c fz h => hS b c _ fz h (by decide) (by decide)) id) hcs)
    refine WordsAt.keep (w := w1) ⟨w.heap.size, rfl, ?_⟩ k2 (fun b c fz h => hS b c _ fz h (by decide) (by decide)) id
    exact grown_heap hgrow (heap_old (heap_new w _)) (fun e => by
      obtain ⟨c, fz, h⟩ := hrow _ e
      exact absurd (lt_of h) (Nat.lt_irrefl _))
  · rw [heap_set (c := #[.int .i64 at_]) (e := 3) (fz := (0, 0)) (by rw [heap_set_other (Ne.symm hne)]; exact hA1)]; rfl
  · exact (k1.mono (fun _ h => h.elim) fun _ h => h).trans (k2.mono (fun _ h => h) fun _ h => h.elim)

set_option maxRecDepth 100000 in
set_option maxHeartbeats 2000000 in
theorem put_any (s : ByteArray) (B Lb Ab : Nat) (l : List Drl.Ln) (at_ : Nat) (w : World) (hE : Env w) (hs : s.size ≤ 65536) (hat : at_ ≤ 65536) (hl : l.length ≤ 65536) (hB : B ≤ w.heap.size) (hBL : B ≤ Lb) (hBA : B ≤ Ab) (hI : PutIn B Lb Ab w l at_) :
    Calls Tryz.prog 33 #[.string s, .pointer (some ⟨Lb, 0, none⟩), .pointer (some ⟨Ab, 0, none⟩)] w fun e w' => e = .returned (.tuple #[]) ∧
      PutIn B Lb Ab w' (putL l at_ (Drl.trim s.data.toList)) (at_ + 1) ∧ Keep (fun k => k = Lb ∨ k = Ab) (fun e => e = 59) w w' ∧ Below B w w' := by
  have HI := Lib.hid hI
  obtain ⟨⟨lv, hLb, cs, hown, hcs⟩, hAb⟩ := hI
  obtain ⟨t, ht⟩ : ∃ t : ByteArray, t.data.toList = Drl.trim s.data.toList := ⟨⟨⟨_⟩⟩, rfl⟩
  have htl : t.size ≤ 65536 := by
    have := trim_len s.data.toList
    rw [← ht, size_len, size_len] at this; omega
  have hs1 : ∀ w : World, Calls Tryz.prog 34 #[.string s, .string ⟨#[32]⟩] w fun e w' => e = .returned (.string t) ∧ w = w' := by
    intro w
    have := trimLeft_any s w
    rw [← ht, strV_data] at this
    exact this
  rw [← ht]
  have c1 : w.cell? ⟨Lb, 0, none⟩ = some lv := cell_of hLb rfl
  have c2 : w.cell? ⟨Ab, 0, none⟩ = some (.int .i64 at_) := cell_of hAb rfl
  have f2 : w.frozen? ⟨Ab, 0, none⟩ = false := free_of hAb 0
  have f1 : w.frozen? ⟨Lb, 0, none⟩ = false := free_of hLb 0
  have HL := Lib.hid hLb
  have HA := Lib.hid hAb
  clear ht hLb hAb
  by_cases h0 : t.size = 0
  · have HS := Lib.hid (says_no t h0)
    have e0 := toList_nil h0
    go_enter Tryz.func33, Tryz.ntmps33
    go_wp2_with (go_at_call 34; refine (hs1 _).mono ?_)
    rintro e w' ⟨rfl, rfl⟩
    clear hs1
    go_wp2_with fail
    go_end0
    refine ⟨rfl, ?_, (Keep.refl _ _ w).setCell _ (.inr rfl) _, (Below.refl _ w).setCell hBA _⟩
    rw [putL_no HS.out]
    exact put_store HI.out
  · have h0' : 0 < t.size := by omega
    have e0 := toList_some h0'
    by_cases h35 : (t[0]'h0').toNat = 35
    · have HS := Lib.hid (says_yes t h0')
      have e1 : (((t[0]'h0').toNat : Int) != 35) = false := by simp [bne]; omega
      have H35 := Lib.hid h35
      clear h35
      go_enter Tryz.func33, Tryz.ntmps33
      go_wp2_with (go_at_call 34; refine (hs1 _).mono ?_)
      rintro e w' ⟨rfl, rfl⟩
      clear hs1
      go_wp2_with fail
      go_end0
      refine ⟨rfl, ?_, (Keep.refl _ _ w).setCell _ (.inr rfl) _, (Below.refl _ w).setCell hBA _⟩
      rw [putL_no (by rw [HS.out, H35.out]; rfl)]
      exact put_store HI.out
    · have HS := Lib.hid (says_yes t h0')
      have e1 : (((t[0]'h0').toNat : Int) != 35) = true := by simp [bne]; omega
      have H35 := Lib.hid h35
      clear h35
      obtain ⟨i0, hi, hz0, hz1, hz2⟩ := info_parts info_line
      have nL : lv.ownBlock ≠ some Lb := fun e => by
        obtain ⟨cs', fz, hh, _⟩ := ownsRow_row hown Lb e
        exact ne_of_type hh HL.out (by decide) rfl
      have nA : lv.ownBlock ≠ some Ab := fun e => by
        obtain ⟨cs', fz, hh, _⟩ := ownsRow_row hown Ab e
        exact ne_of_type hh HA.out (by decide) rfl
      have NL := Lib.hid nL
      have NA := Lib.hid nA
      clear nL nA
      go_enter Tryz.func33, Tryz.ntmps33
      go_wp2_with (go_at_call 34; refine (hs1 _).mono ?_)
      rintro e w' ⟨rfl, rfl⟩
      clear hs1
      go_wp2_with fail
      have j1 : ∀ o1, (w.alloc o1).cell? ⟨Lb, 0, none⟩ = some lv := fun o1 => cell_old c1
      have j2 : ∀ o1, (w.alloc o1).cell? ⟨Ab, 0, none⟩ = some (.int .i64 at_) := fun o1 => cell_old c2
      have j3 : ∀ o1 o2, ((w.alloc o1).alloc o2).cell? ⟨Lb, 0, none⟩ = some lv := fun o1 o2 => cell_old (cell_old c1)
      go_region_law
        (first
          | (refine step_append_lies _ rfl (.tmp 13) (.tmp 19) 46 rfl B 59 i0 _ 3 48 Tryz.underlying46 hi hz0 hz1 hz2 rfl (by decide) lv l.length cs rfl (by exact (hown.alloc _).alloc _) ⟨w.heap.size + 1, 0, none⟩ 1 1 [.int .i64 at_, .string t, .slice (some ⟨w.heap.size, 0, none⟩) (Drl.words t.data.toList).length (Drl.words t.data.toList).length] rfl rfl (World.news_of_block (heap_new2 w _ _)) (by simp [Value.oneCell']) (by decide) (by unfold maxLen; omega) (by omega) (by simp; omega) _ rfl ?_; intro g cap w1 hown1 hgrow hat hlt; have hL1 := Lib.hid (grown_heap hgrow (heap_old (heap_old HL.out)) NL.out); have hA1 := Lib.hid (grown_heap hgrow (heap_old (heap_old HA.out)) NA.out); have k1 := cell_one hL1.out; have k2 := cell_one hA1.out; have k3 := free_of hL1.out 0; have k4 : ∀ v, (w1.setCell ⟨Lb, 0, none⟩ v).cell? ⟨Ab, 0, none⟩ = some (.int .i64 at_) := fun v => cell_set_other k2 (ne_of_type hA1.out hL1.out (by decide)); have k5 : ∀ v, (w1.setCell ⟨Lb, 0, none⟩ v).frozen? ⟨Ab, 0, none⟩ = false := fun v => free_set_other (free_of hA1.out 0) (ne_of_type hA1.out hL1.out (by decide)))
          | (go_simp; go_at_call 35; refine (split_any t _ (hE.keep (by simp) (by intro k hk; rfl)) htl).mono ?_; rintro e w' ⟨rfl, rfl⟩))
      all_goals go_wp2_with fail
      all_goals go_end0
      all_goals
        have R := put_end (t := t.data.toList) HL.out HA.out hown hcs hgrow hown1
        refine ⟨rfl, ?_, R.2, ((((((Below.refl _ w).alloc hB _).alloc (by simp; omega) _).drew.grown hgrow (by simp; omega) (fun k hk => (ownsRow_row hown k hk).choose_spec.choose_spec.2)).setCell hBL _).setCell hBA _)⟩
        rw [putL_yes (by rw [HS.out]; simpa using H35.out)]
        exact R.1
end Go.Proofs.YtfbmlnkgjgnnhaaGreatDoor
