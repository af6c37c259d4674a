/- A part of the abstract interpreter: a step on the way to the statement. -/
import Derived.Test.YtmookoajpcnigaaGreatMxR23
set_option linter.unusedVariables false
namespace Go.Mx
open Go Go.Proofs
set_option maxRecDepth 1000000 in
theorem pin_nil : isT (callF E23 3000 40 7 [.one (.md 3 .u8 0 1), .one (.sl none 0 0 false)] s210) = true := by decide +kernel
set_option maxRecDepth 1000000 in
theorem pin_zero : isT (callF E23 3000 40 7 [.one (.md 3 .u8 0 1), .one (.sn (200, 0) 0 0 2)] s210) = true := by decide +kernel
set_option maxRecDepth 1000000 in
theorem pin_big : isT (callF E23 3000 40 7 [.one (.md 3 .u8 0 1), .one (.sn (200, 0) 65 9223372036854775807 2)] s210) = true := by decide +kernel
set_option maxRecDepth 1000000 in
theorem pin_0 : isT (callF E23 3000 40 7 [.one (.md 3 .u8 0 20), .one (.sn (200, 0) 1 64 2)] sB) = true := by decide +kernel
set_option maxRecDepth 1000000 in
theorem pin_1 : isT (callF E23 3000 40 7 [.one (.md 3 .u8 1 20), .one (.sn (200, 0) 1 64 2)] sB) = true := by decide +kernel
set_option maxRecDepth 1000000 in
theorem pin_2 : isT (callF E23 3000 40 7 [.one (.md 3 .u8 2 20), .one (.sn (200, 0) 1 64 2)] sB) = true := by decide +kernel
set_option maxRecDepth 1000000 in
theorem pin_3 : isT (callF E23 3000 40 7 [.one (.md 3 .u8 3 20), .one (.sn (200, 0) 1 64 2)] sB) = true := by decide +kernel
set_option maxRecDepth 1000000 in
theorem pin_4 : isT (callF E23 3000 40 7 [.one (.md 3 .u8 4 20), .one (.sn (200, 0) 1 64 2)] sB) = true := by decide +kernel
set_option maxRecDepth 1000000 in
theorem pin_5 : isT (callF E23 3000 40 7 [.one (.md 3 .u8 5 20), .one (.sn (200, 0) 1 64 2)] sB) = true := by decide +kernel
set_option maxRecDepth 1000000 in
theorem pin_6 : isT (callF E23 3000 40 7 [.one (.md 3 .u8 6 20), .one (.sn (200, 0) 1 64 2)] sB) = true := by decide +kernel
set_option maxRecDepth 1000000 in
theorem pin_7 : isT (callF E23 3000 40 7 [.one (.md 3 .u8 7 20), .one (.sn (200, 0) 1 64 2)] sB) = true := by decide +kernel
set_option maxRecDepth 1000000 in
theorem pin_8 : isT (callF E23 3000 40 7 [.one (.md 3 .u8 8 20), .one (.sn (200, 0) 1 64 2)] sB) = true := by decide +kernel
set_option maxRecDepth 1000000 in
theorem pin_9 : isT (callF E23 3000 40 7 [.one (.md 3 .u8 9 20), .one (.sn (200, 0) 1 64 2)] sB) = true := by decide +kernel
set_option maxRecDepth 1000000 in
theorem pin_10 : isT (callF E23 3000 40 7 [.one (.md 3 .u8 10 20), .one (.sn (200, 0) 1 64 2)] sB) = true := by decide +kernel
set_option maxRecDepth 1000000 in
theorem pin_11 : isT (callF E23 3000 40 7 [.one (.md 3 .u8 11 20), .one (.sn (200, 0) 1 64 2)] sB) = true := by decide +kernel
set_option maxRecDepth 1000000 in
theorem pin_12 : isT (callF E23 3000 40 7 [.one (.md 3 .u8 12 20), .one (.sn (200, 0) 1 64 2)] sB) = true := by decide +kernel
set_option maxRecDepth 1000000 in
theorem pin_13 : isT (callF E23 3000 40 7 [.one (.md 3 .u8 13 20), .one (.sn (200, 0) 1 64 2)] sB) = true := by decide +kernel
set_option maxRecDepth 1000000 in
theorem pin_14 : isT (callF E23 3000 40 7 [.one (.md 3 .u8 14 20), .one (.sn (200, 0) 1 64 2)] sB) = true := by decide +kernel
set_option maxRecDepth 1000000 in
theorem pin_15 : isT (callF E23 3000 40 7 [.one (.md 3 .u8 15 20), .one (.sn (200, 0) 1 64 2)] sB) = true := by decide +kernel
set_option maxRecDepth 1000000 in
theorem pin_16 : isT (callF E23 3000 40 7 [.one (.md 3 .u8 16 20), .one (.sn (200, 0) 1 64 2)] sB) = true := by decide +kernel
set_option maxRecDepth 1000000 in
theorem pin_17 : isT (callF E23 3000 40 7 [.one (.md 3 .u8 17 20), .one (.sn (200, 0) 1 64 2)] sB) = true := by decide +kernel
set_option maxRecDepth 1000000 in
theorem pin_18 : isT (callF E23 3000 40 7 [.one (.md 3 .u8 18 20), .one (.sn (200, 0) 1 64 2)] sB) = true := by decide +kernel
set_option maxRecDepth 1000000 in
theorem pin_19 : isT (callF E23 3000 40 7 [.one (.md 3 .u8 19 20), .one (.sn (200, 0) 1 64 2)] sB) = true := by decide +kernel
theorem pin_all : ∀ r, r < 20 → isT (callF E23 3000 40 7 [.one (.md 3 .u8 r 20), .one (.sn (200, 0) 1 64 2)] sB) = true
  | 0, _ => pin_0
  | 1, _ => pin_1
  | 2, _ => pin_2
  | 3, _ => pin_3
  | 4, _ => pin_4
  | 5, _ => pin_5
  | 6, _ => pin_6
  | 7, _ => pin_7
  | 8, _ => pin_8
  | 9, _ => pin_9
  | 10, _ => pin_10
  | 11, _ => pin_11
  | 12, _ => pin_12
  | 13, _ => pin_13
  | 14, _ => pin_14
  | 15, _ => pin_15
  | 16, _ => pin_16
  | 17, _ => pin_17
  | 18, _ => pin_18
  | 19, _ => pin_19
  | n + 20, h => absurd h (by omega)
end Go.Mx
