import Derived.Test.YtdcdlmigagjbiaaDoorRows
import Derived.Test.YtdcdlmigagjbiaaDoorBeg
import Derived.WalkKit
import Derived.WalkSpells
import Derived.WalkLawsBesides
import Derived.Outline
namespace Go.Proofs.YtdcdlmigagjbiaaDoor
open Go.RowKit
theorem ret_tail {b lo hi n : Nat} (h1 : U.tlow b = lo) (h2 : U.thigh b = hi) (h3 : U.tsize b = n) : Ending.returned (.tuple #[.int .u8 lo, .int .u8 hi, .int .i64 n]) = .returned (.tuple #[.int .u8 (U.tlow b), .int .u8 (U.thigh b), .int .i64 (U.tsize b)]) := by
  rw [h1, h2, h3]
set_option maxRecDepth 100000 in
set_option maxHeartbeats 400000 in
theorem tail_any (b : Nat) (hb : b < 256) (w : World) :
    Calls Tryd.prog 58 #[.int .u8 b] w fun e w' => e = .returned (.tuple #[.int .u8 (U.tlow b), .int .u8 (U.thigh b), .int .i64 (U.tsize b)]) ∧ w = w' := by
  rcases (by omega : b < 128 ∨ (128 ≤ b ∧ b < 194) ∨ (194 ≤ b ∧ b < 224) ∨ (224 ≤ b ∧ b < 225) ∨ (225 ≤ b ∧ b < 237) ∨ (237 ≤ b ∧ b < 238) ∨ (238 ≤ b ∧ b < 240) ∨ (240 ≤ b ∧ b < 241) ∨ (241 ≤ b ∧ b < 244) ∨ (244 ≤ b ∧ b < 245) ∨ 245 ≤ b) with h | ⟨h, h'⟩ | ⟨h, h'⟩ | ⟨h, h'⟩ | ⟨h, h'⟩ | ⟨h, h'⟩ | ⟨h, h'⟩ | ⟨h, h'⟩ | ⟨h, h'⟩ | ⟨h, h'⟩ | h
  all_goals
    go_enter Tryd.func58, Tryd.ntmps58
    go_wp2
    go_ret3
    exact ⟨ret_tail (by unfold U.tlow; (repeat' split) <;> first | rfl | omega) (by unfold U.thigh; (repeat' split) <;> first | rfl | omega) (by unfold U.tsize; (repeat' split) <;> first | rfl | omega), rfl⟩
end Go.Proofs.YtdcdlmigagjbiaaDoor
