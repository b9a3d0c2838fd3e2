import Derived.Test.YtfbmlnkgjgnnhaaGreatDoorA16
namespace Go.Proofs.YtfbmlnkgjgnnhaaGreatDoor
open Go.RowKit

set_option maxRecDepth 100000
set_option maxHeartbeats 2000000

/-- as the reading begins -/
theorem At.start (w w4 : World) (ls : List Drl.Ln) (hb : Below w.heap.size w w4)
    (h0 : w4.heap[w.heap.size]? = some (.cells #[.int .i64 0, .string ⟨#[]⟩, .slice none 0 0, .int .u8 0, .slice none 0 0, .pointer none] 62 (0, 0)))
    (h1 : w4.heap[w.heap.size + 1]? = some (.cells #[.pointer (some ⟨w.heap.size, 0, none⟩)] 50 (0, 0))) (h2 : w4.heap[w.heap.size + 1 + 1]? = some (.map #[] 0))
    (h3 : w4.heap[w.heap.size + 1 + 1 + 1]? = some (.cells #[.slice (some ⟨w.heap.size + 1, 0, none⟩) 1 1, .map (some (w.heap.size + 1 + 1))] 95 (0, 0))) :
    At w ls 0 (w.heap.size + 1 + 1 + 1) (w.heap.size + 1 + 1) (.slice (some ⟨w.heap.size + 1, 0, none⟩) 1 1) (fun _ => w.heap.size) (fun _ => .slice none 0 0) (fun _ => .slice none 0 0) Drl.st0 w4 := by
  have hz : ∀ {i}, i < Drl.st0.ar.length → i = 0 := fun h => by simp [Drl.st0] at h; omega
  refine ⟨Nat.zero_le _, ⟨⟨?_, ?_, ?_, ?_, ?_, fun i hi => Nat.le_refl _⟩, ?_, h3, ?_, ⟨#[], 0, h2, rfl⟩, by omega, by omega⟩, Drl.Inv.start, hb, by decide, by decide, ?_⟩
  · intro i hi; obtain rfl := hz hi; exact h0
  · intro i hi; obtain rfl := hz hi; exact .inl ⟨rfl, rfl⟩
  · intro i hi; obtain rfl := hz hi; exact World.ownsRow_nil _ _ _ _
  · intro i j hi hj _; rw [hz hi, hz hj]
  · intro i j g hi hj _ _; rw [hz hi, hz hj]
  · intro i g hi h; simp [Value.ownBlock] at h
  · exact ⟨rfl, .inr ⟨w.heap.size + 1, 1, #[.pointer (some ⟨w.heap.size, 0, none⟩)], rfl, by omega, h1, by decide, by decide, rfl, rfl⟩⟩
  · intro i hi; obtain rfl := hz hi; exact Nat.zero_le _

theorem read_any (ao : Option Addr) (cap : Nat) (ls : List Drl.Ln) (w : World) (h : ReadIn w ao ls) :
    Calls Tryz.prog 21 #[.slice ao ls.length cap] w (ReadPost w (Drl.readFrom Drl.st0 ls)) := by
  have hmm := @run_makeMap Tryz.prog
  have hsm : ∀ x ∈ ls, 1 ≤ x.ws.length ∧ ∀ t ∈ x.ws, t.length ≤ 65536 := fun x hx => ⟨(h.small x hx).1, (h.small x hx).2.1⟩
  go_enter Tryz.func21, Tryz.ntmps21
  go_wp2_with fail
  refine wp_scope_three (JAll w ao cap ls) (mu ls) ?hJ rfl rfl rfl ?first ?pass0 ?pass1 ?pass2
  case hJ =>
    intro l a wr hJ
    match l, hJ with
    | 0, _ => exact .inl rfl
    | 1, _ => exact .inr (.inl rfl)
    | 2, _ => exact .inr (.inr rfl)
  case first =>
    go_wp2_with fail
    go_step3
    rename_i K hK
    refine hK _ _ ?_
    generalize hw4 : (((w.alloc (.cells #[.int .i64 0, .string ⟨#[]⟩, .slice none 0 0, .int .u8 0, .slice none 0 0, .pointer none] 62)).alloc (.cells #[.pointer (some ⟨w.heap.size, 0, none⟩)] 50)).alloc (.map #[] 0)).alloc (.cells #[.slice (some ⟨w.heap.size + 1, 0, none⟩) 1 1, .map (some (w.heap.size + 1 + 1))] 95) = w4
    have hat : At w ls 0 (w.heap.size + 1 + 1 + 1) (w.heap.size + 1 + 1) (.slice (some ⟨w.heap.size + 1, 0, none⟩) 1 1) (fun _ => w.heap.size) (fun _ => .slice none 0 0) (fun _ => .slice none 0 0) Drl.st0 w4 := by
      have hs1 : ∀ (W : World) (o : Obj), (W.alloc o).heap.size = W.heap.size + 1 := fun W o => size_alloc W o
      refine At.start w w4 ls ?_ ?_ ?_ ?_ ?_
      · rw [← hw4]
        refine ((((Below.refl w.heap.size w).alloc (Nat.le_refl _) _).alloc ?_ _).alloc ?_ _).alloc ?_ _ <;> simp only [hs1] <;> omega
      · rw [← hw4]; exact heap_old (heap_old (heap_old (heap_new _ _)))
      · rw [← hw4]; refine heap_old (heap_old ?_); rw [← hs1 w (.cells #[.int .i64 0, .string ⟨#[]⟩, .slice none 0 0, .int .u8 0, .slice none 0 0, .pointer none] 62)]; exact heap_new _ _
      · rw [← hw4]; refine heap_old ?_; have := heap_new ((w.alloc (.cells #[.int .i64 0, .string ⟨#[]⟩, .slice none 0 0, .int .u8 0, .slice none 0 0, .pointer none] 62)).alloc (.cells #[.pointer (some ⟨w.heap.size, 0, none⟩)] 50)) (.map #[] 0); simp only [hs1] at this; exact this
      · rw [← hw4]; have := heap_new (((w.alloc (.cells #[.int .i64 0, .string ⟨#[]⟩, .slice none 0 0, .int .u8 0, .slice none 0 0, .pointer none] 62)).alloc (.cells #[.pointer (some ⟨w.heap.size, 0, none⟩)] 50)).alloc (.map #[] 0)) (.cells #[.slice (some ⟨w.heap.size + 1, 0, none⟩) 1 1, .map (some (w.heap.size + 1 + 1))] 95); simp only [hs1] at this; exact this
    refine Code.wp_mono (fun e a w' hq => ?_) (read_pass1 w ao cap ls _ w4 _ rfl ?_ h)
    · cases e with
      | goto l => exact hq.1
      | _ => exact hq
    · exact JNext.mk_ (k := 0) (ad := fun _ => w.heap.size) rfl rfl Fr.intro hat (by rw [List.drop_zero])
  case pass0 =>
    intro a wr hJ
    exact read_pass0 w ao cap ls a wr _ _ rfl hJ h.len
  case pass1 =>
    intro a wr hJ
    refine wp_seq (wp_skip ?_)
    exact read_pass1 w ao cap ls a wr _ rfl hJ h
  case pass2 =>
    intro a wr hJ
    exact read_pass2 w ao cap ls a wr _ rfl hJ h.len hsm
end Go.Proofs.YtfbmlnkgjgnnhaaGreatDoor
