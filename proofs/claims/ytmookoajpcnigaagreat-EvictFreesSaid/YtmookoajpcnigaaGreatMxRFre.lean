/- Runs of 'EvictFrees'. -/
import Derived.Test.YtmookoajpcnigaaGreatMxR20
set_option linter.unusedVariables false
namespace Go.Mx
open Go Go.Proofs
set_option maxRecDepth 1000000 in
theorem fre_nil0 : isT (callF E20 3000 40 5 [.one (.sl none 0 0 false), .one (.md 3 .u8 0 8)] s210) = true := by decide +kernel
set_option maxRecDepth 1000000 in
theorem fre_nil1 : isT (callF E20 3000 40 5 [.one (.sl none 0 0 false), .one (.md 3 .u8 1 8)] s210) = true := by decide +kernel
set_option maxRecDepth 1000000 in
theorem fre_nil2 : isT (callF E20 3000 40 5 [.one (.sl none 0 0 false), .one (.md 3 .u8 2 8)] s210) = true := by decide +kernel
set_option maxRecDepth 1000000 in
theorem fre_nil3 : isT (callF E20 3000 40 5 [.one (.sl none 0 0 false), .one (.md 3 .u8 3 8)] s210) = true := by decide +kernel
set_option maxRecDepth 1000000 in
theorem fre_nil4 : isT (callF E20 3000 40 5 [.one (.sl none 0 0 false), .one (.md 3 .u8 4 8)] s210) = true := by decide +kernel
set_option maxRecDepth 1000000 in
theorem fre_nil5 : isT (callF E20 3000 40 5 [.one (.sl none 0 0 false), .one (.md 3 .u8 5 8)] s210) = true := by decide +kernel
set_option maxRecDepth 1000000 in
theorem fre_nil6 : isT (callF E20 3000 40 5 [.one (.sl none 0 0 false), .one (.md 3 .u8 6 8)] s210) = true := by decide +kernel
set_option maxRecDepth 1000000 in
theorem fre_nil7 : isT (callF E20 3000 40 5 [.one (.sl none 0 0 false), .one (.md 3 .u8 7 8)] s210) = true := by decide +kernel
set_option maxRecDepth 1000000 in
theorem fre_zero0 : isT (callF E20 3000 40 5 [.one (.sn (200, 0) 0 0 2), .one (.md 3 .u8 0 8)] s210) = true := by decide +kernel
set_option maxRecDepth 1000000 in
theorem fre_zero1 : isT (callF E20 3000 40 5 [.one (.sn (200, 0) 0 0 2), .one (.md 3 .u8 1 8)] s210) = true := by decide +kernel
set_option maxRecDepth 1000000 in
theorem fre_zero2 : isT (callF E20 3000 40 5 [.one (.sn (200, 0) 0 0 2), .one (.md 3 .u8 2 8)] s210) = true := by decide +kernel
set_option maxRecDepth 1000000 in
theorem fre_zero3 : isT (callF E20 3000 40 5 [.one (.sn (200, 0) 0 0 2), .one (.md 3 .u8 3 8)] s210) = true := by decide +kernel
set_option maxRecDepth 1000000 in
theorem fre_zero4 : isT (callF E20 3000 40 5 [.one (.sn (200, 0) 0 0 2), .one (.md 3 .u8 4 8)] s210) = true := by decide +kernel
set_option maxRecDepth 1000000 in
theorem fre_zero5 : isT (callF E20 3000 40 5 [.one (.sn (200, 0) 0 0 2), .one (.md 3 .u8 5 8)] s210) = true := by decide +kernel
set_option maxRecDepth 1000000 in
theorem fre_zero6 : isT (callF E20 3000 40 5 [.one (.sn (200, 0) 0 0 2), .one (.md 3 .u8 6 8)] s210) = true := by decide +kernel
set_option maxRecDepth 1000000 in
theorem fre_zero7 : isT (callF E20 3000 40 5 [.one (.sn (200, 0) 0 0 2), .one (.md 3 .u8 7 8)] s210) = true := by decide +kernel
set_option maxRecDepth 1000000 in
theorem fre_0 : isT (callF E20 3000 40 5 [.one (.sn (200, 0) 1 64 2), .one (.md 3 .u8 0 8)] sB) = true := by decide +kernel
set_option maxRecDepth 1000000 in
theorem fre_1 : isT (callF E20 3000 40 5 [.one (.sn (200, 0) 1 64 2), .one (.md 3 .u8 1 8)] sB) = true := by decide +kernel
set_option maxRecDepth 1000000 in
theorem fre_2 : isT (callF E20 3000 40 5 [.one (.sn (200, 0) 1 64 2), .one (.md 3 .u8 2 8)] sB) = true := by decide +kernel
set_option maxRecDepth 1000000 in
theorem fre_3 : isT (callF E20 3000 40 5 [.one (.sn (200, 0) 1 64 2), .one (.md 3 .u8 3 8)] sB) = true := by decide +kernel
set_option maxRecDepth 1000000 in
theorem fre_4 : isT (callF E20 3000 40 5 [.one (.sn (200, 0) 1 64 2), .one (.md 3 .u8 4 8)] sB) = true := by decide +kernel
set_option maxRecDepth 1000000 in
theorem fre_5 : isT (callF E20 3000 40 5 [.one (.sn (200, 0) 1 64 2), .one (.md 3 .u8 5 8)] sB) = true := by decide +kernel
set_option maxRecDepth 1000000 in
theorem fre_6 : isT (callF E20 3000 40 5 [.one (.sn (200, 0) 1 64 2), .one (.md 3 .u8 6 8)] sB) = true := by decide +kernel
set_option maxRecDepth 1000000 in
theorem fre_7 : isT (callF E20 3000 40 5 [.one (.sn (200, 0) 1 64 2), .one (.md 3 .u8 7 8)] sB) = true := by decide +kernel
set_option maxRecDepth 1000000 in
theorem fre_big : isT (callF E20 3000 40 5 [.one (.sn (200, 0) 65 9223372036854775807 2), .one (.md 3 .u8 0 1)] s210) = true := by decide +kernel
end Go.Mx
namespace Go.Mx
open Go Go.Proofs
theorem fre_nil (r : Nat) (h : r < 8) : isT (callF E20 3000 40 5 [.one (.sl none 0 0 false), .one (.md 3 .u8 r 8)] s210) = true := by
  match r, h with
  | 0, _ => exact fre_nil0 | 1, _ => exact fre_nil1 | 2, _ => exact fre_nil2 | 3, _ => exact fre_nil3 | 4, _ => exact fre_nil4 | 5, _ => exact fre_nil5 | 6, _ => exact fre_nil6 | 7, _ => exact fre_nil7
theorem fre_zero (r : Nat) (h : r < 8) : isT (callF E20 3000 40 5 [.one (.sn (200, 0) 0 0 2), .one (.md 3 .u8 r 8)] s210) = true := by
  match r, h with
  | 0, _ => exact fre_zero0 | 1, _ => exact fre_zero1 | 2, _ => exact fre_zero2 | 3, _ => exact fre_zero3 | 4, _ => exact fre_zero4 | 5, _ => exact fre_zero5 | 6, _ => exact fre_zero6 | 7, _ => exact fre_zero7
theorem fre_all (r : Nat) (h : r < 8) : isT (callF E20 3000 40 5 [.one (.sn (200, 0) 1 64 2), .one (.md 3 .u8 r 8)] sB) = true := by
  match r, h with
  | 0, _ => exact fre_0 | 1, _ => exact fre_1 | 2, _ => exact fre_2 | 3, _ => exact fre_3 | 4, _ => exact fre_4 | 5, _ => exact fre_5 | 6, _ => exact fre_6 | 7, _ => exact fre_7
end Go.Mx
