/- No decoder: the law, walked. -/
import Derived.Test.YtgfkgcnnjehmlaaDoorAlive
namespace Go.Proofs.YtgfkgcnnjehmlaaDoor
open Go Go.RowKit

set_option maxHeartbeats 400000 in
theorem nil_any (s : ByteArray) (w : World) (hG : Glob w) : Calls Tryd.prog 7 #[.string s] w (Ret w (IsB True)) := by
  go_enter Tryd.func7, Tryd.ntmps7
  go_wp2_with fail
  refine (alive_any w hG).mono ?_
  rintro e w1 ⟨v, rfl, hb, b, rfl, hbt⟩
  obtain rfl : b = true := hbt.2 trivial
  go_wp2_with fail
  refine (feed_nil s w1).mono ?_
  rintro e w2 ⟨rfl, rfl⟩
  go_wp2_with fail
  refine (lost_nil _).mono ?_
  rintro e w3 ⟨rfl, rfl⟩
  go_wp2_with fail
  refine (left_nil _).mono ?_
  rintro e w4 ⟨rfl, rfl⟩
  go_wp2
  go_ret
  exact ⟨_, rfl, hb, isB_true trivial⟩
end Go.Proofs.YtgfkgcnnjehmlaaDoor
