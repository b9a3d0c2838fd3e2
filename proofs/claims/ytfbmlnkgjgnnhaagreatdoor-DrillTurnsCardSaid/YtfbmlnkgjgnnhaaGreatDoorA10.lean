import Derived.Test.YtfbmlnkgjgnnhaaGreatDoorA9
import Derived.MapKept
namespace Go.Proofs.YtfbmlnkgjgnnhaaGreatDoor
open Go.RowKit

/-! ### the names -/
def optPtr (ad : Nat → Nat) : Option Nat → Value
  | none => .pointer none
  | some i => nptr ad i
def MapIs (w : World) (M : Nat) (ad : Nat → Nat) (names : List (Drl.Str × Nat)) : Prop :=
  ∃ es clock, w.heap[M]? = some (.map es clock) ∧ es.toList.map (fun e => (e.key, e.val)) = names.map fun p => (strV p.1, nptr ad p.2)

theorem beq_bytes (a b : ByteArray) : (a == b) = (a.data.toList == b.data.toList) := by
  rw [Bool.eq_iff_iff, MapKept.bytes_beq]
  simp only [beq_iff_eq]
  constructor
  · rintro rfl; rfl
  · intro h; cases a; cases b; simp at h; rw [h]

theorem findNow_names (ad : Nat → Nat) (s : ByteArray) : ∀ (es : List MapEntry) (names : List (Drl.Str × Nat)) (i : Nat), es.map (fun e => (e.key, e.val)) = names.map (fun p => (strV p.1, nptr ad p.2)) →
    ∃ r, Instr.findNow .string (.string s) es i = some r ∧ r.map (·.2) = (Drl.look names s.data.toList).map (nptr ad)
  | [], [], i, _ => ⟨none, rfl, rfl⟩
  | [], _ :: _, _, h => by simp at h
  | _ :: _, [], _, h => by simp at h
  | e :: es, p :: names, i, h => by
    simp only [List.map_cons, List.cons.injEq, Prod.mk.injEq] at h
    obtain ⟨⟨hk, hv⟩, hr⟩ := h
    simp only [Instr.findNow, hk, strV, Instr.sameNow, beq_bytes]
    by_cases e1 : s.data.toList = p.1
    · have e2 : (s.data.toList == p.1) = true := by simpa using e1
      have e3 : (p.1 == s.data.toList) = true := by simpa using e1.symm
      rw [e2]
      refine ⟨some (i, e.val), rfl, ?_⟩
      simp only [Drl.look, List.find?_cons, e3, Option.map_some, hv]
    · have e2 : (s.data.toList == p.1) = false := by simpa using e1
      have e3 : (p.1 == s.data.toList) = false := by simpa using fun x => e1 x.symm
      rw [e2]
      obtain ⟨r, h1, h2⟩ := findNow_names ad s es names (i + 1) hr
      refine ⟨r, h1, ?_⟩
      rw [h2]
      simp only [Drl.look, List.find?_cons, e3]

theorem zero_pNode (w : World) : (zeroValue 50).run Tryz.prog w = .ok (.pointer none) w := by kernel_rfl

theorem lookup_names {w : World} {M : Nat} {ad : Nat → Nat} {names : List (Drl.Str × Nat)} (h : MapIs w M ad names) (s : ByteArray) :
    (Instr.lookup 93 (.map (some M)) (.string s) false).run Tryz.prog w = .ok (optPtr ad (Drl.look names s.data.toList)) w := by
  obtain ⟨es, clock, hM, hes⟩ := h
  obtain ⟨r, h1, h2⟩ := findNow_names ad s es.toList names 0 hes
  have hch : ∀ (b : Bool), (Instr.checkKey b 10000 9 (.string s)).run Tryz.prog w = .ok () w := fun b => MapKept.run_checkKey Tryz.underlying9 (by simp [MapKept.IsKey]) b 9999
  have hk := MapKept.run_findKey (w := w) Tryz.underlying9 h1
  simp only [Instr.lookup, Sem.run_bind, run_underlying Tryz.underlying93, Result.andThen, MapKept.run_getObj_map hM]
  cases hl : Drl.look names s.data.toList with
  | none =>
    rw [hl] at h2
    cases r with
    | none => simp [optPtr, hch, hk]
    | some q => simp at h2
  | some i =>
    rw [hl] at h2
    cases r with
    | none => simp at h2
    | some q => simp at h2; simp [optPtr, h2, hch, hk]

theorem update_names {w : World} {M : Nat} {ad : Nat → Nat} {names : List (Drl.Str × Nat)} (h : MapIs w M ad names) (s : ByteArray) (i : Nat) (hn : Drl.look names s.data.toList = none) :
    ∃ w', (Instr.mapUpdate 93 (.map (some M)) (.string s) (nptr ad i)).run Tryz.prog w = .ok () w' ∧ MapIs w' M ad (names ++ [(s.data.toList, i)]) ∧ ∃ o, w' = { w with heap := w.heap.setIfInBounds M o } := by
  obtain ⟨es, clock, hM, hes⟩ := h
  obtain ⟨r, h1, h2⟩ := findNow_names ad s es.toList names 0 hes
  rw [hn] at h2
  have hr : r = none := by simpa using h2
  subst hr
  have hch : ∀ (b : Bool), (Instr.checkKey b 10000 9 (.string s)).run Tryz.prog w = .ok () w := fun b => MapKept.run_checkKey Tryz.underlying9 (by simp [MapKept.IsKey]) b 9999
  have hk := MapKept.run_findKey (w := w) Tryz.underlying9 h1
  refine ⟨{ w with heap := w.heap.setIfInBounds M (.map (es.push { key := .string s, val := nptr ad i, born := clock }) (clock + 1)) }, ?_, ⟨es.push { key := .string s, val := nptr ad i, born := clock }, clock + 1, (MapKept.heap_set hM).1, ?_⟩, _, rfl⟩
  · simp [Instr.mapUpdate, run_underlying Tryz.underlying93, MapKept.run_getObj_map hM, hch, hk, MapKept.run_setObj_map _ hM, Result.andThen]
  · simp [hes, strV_data]
end Go.Proofs.YtfbmlnkgjgnnhaaGreatDoor
