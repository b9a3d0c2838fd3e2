import Derived.Test.YtfbmlnkgjgnnhaaGreatDoorA12
import Derived.LaidEqlPtr
namespace Go.Proofs.YtfbmlnkgjgnnhaaGreatDoor
open Go.RowKit

theorem below_drewN {B : Nat} {a b : World} (h : Below B a b) (n : Nat) : Below B a (b.drewN n) := ⟨h.1, h.2, h.3, h.4, h.5⟩

theorem below_drew {B : Nat} {a b : World} (h : Below B a b) : Below B a b.drew := ⟨h.1, h.2, h.3, h.4, h.5⟩

theorem node_info : ∃ j, Tryz.prog.info? 62 = some j ∧ j.size ≠ 0 := by
  have h : (Tryz.prog.info? 62).map TypeInfo.size = some 6 := by kernel_rfl
  obtain ⟨j, h1, h2⟩ := Option.map_eq_some_iff.1 h
  exact ⟨j, h1, by omega⟩
theorem pNode_under : Tryz.prog.underlying 50 = some (.pointer 62) := by kernel_rfl

theorem eql_other (w : World) {a b : Addr} {ca cb : Array Value} {ta tb : TypeId} (hne : a ≠ b) (ha : w.heap[a.block]? = some (.cells ca ta (0, 0))) (hb : w.heap[b.block]? = some (.cells cb tb (0, 0))) :
    (binOp .eql 50 (.pointer (some a)) (.pointer (some b))).run Tryz.prog w = .ok (.bool false) w := by
  obtain ⟨j, h1, h2⟩ := node_info
  exact run_eql_ptr_other w pNode_under h1 h2 hne ha hb
theorem eql_same (w : World) (a : Addr) : (binOp .eql 50 (.pointer (some a)) (.pointer (some a))).run Tryz.prog w = .ok (.bool true) w := by
  obtain ⟨j, h1, h2⟩ := node_info
  exact run_eql_ptr_same w a pNode_under h1
theorem neq_other (w : World) {a b : Addr} {ca cb : Array Value} {ta tb : TypeId} (hne : a ≠ b) (ha : w.heap[a.block]? = some (.cells ca ta (0, 0))) (hb : w.heap[b.block]? = some (.cells cb tb (0, 0))) :
    (binOp .neq 50 (.pointer (some a)) (.pointer (some b))).run Tryz.prog w = .ok (.bool true) w := by
  obtain ⟨j, hte, hsz⟩ := node_info
  have h : ∀ d : Nat, (Op.equalIn (d + 1) 50 (.pointer (some a)) (.pointer (some b))).run Tryz.prog w = .ok false w := fun d => by
    simp [Op.equalIn, run_underlying pNode_under, sizeOf, typeInfo, hte, hsz, run_sameAddr_other w hne ha hb]
  simp only [binOp]
  simp [Op.equal, Op.maxDepth, h 9999]
theorem neq_same (w : World) (a : Addr) : (binOp .neq 50 (.pointer (some a)) (.pointer (some a))).run Tryz.prog w = .ok (.bool false) w := by
  obtain ⟨j, hte, hsz⟩ := node_info
  have h : ∀ d : Nat, (Op.equalIn (d + 1) 50 (.pointer (some a)) (.pointer (some a))).run Tryz.prog w = .ok true w := fun d => by
    simp [Op.equalIn, run_underlying pNode_under, sizeOf, typeInfo, hte, run_sameAddr_same]
  simp only [binOp]
  simp [Op.equal, Op.maxDepth, h 9999]
end Go.Proofs.YtfbmlnkgjgnnhaaGreatDoor
