import Derived.Test.YtfbmlnkgjgnnhaaGreatDoorA22
namespace Go.Proofs.YtfbmlnkgjgnnhaaGreatDoor
open Go.RowKit

set_option maxRecDepth 100000
set_option maxHeartbeats 2000000

theorem all_ok : ∀ K, PlayOk K ∧ TimesOk K := by
  intro K
  induction K using Nat.strongRecOn with
  | _ K ih => exact ⟨play_ok K fun k hk => (ih k hk).2, times_ok K fun k hk => (ih k hk).1⟩
end Go.Proofs.YtfbmlnkgjgnnhaaGreatDoor
