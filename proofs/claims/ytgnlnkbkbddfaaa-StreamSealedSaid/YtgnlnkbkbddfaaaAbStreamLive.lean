/- Ab.StreamLive: the live question of chapter 22: its numbers. -/
import Derived.Test.YtgnlnkbkbddfaaaAbStreamRead
import Derived.Test.YtgnlnkbkbddfaaaAbRef21
import Derived.Test.YtgnlnkbkbddfaaaAbWStream3
import Derived.KernelRfl
namespace Go.Ab

def lb1 : Bt := ⟨0, 1, true, 0, 0, 7, [5, 200]⟩
def lb2 : Bt := ⟨0, 1, false, 0, 0, 7, [5]⟩
def liveB : List (BitVec 8) := [1#8, 172#8, 2#8, 2#8, 38#8, 1#8, 7#8, 2#8, 5#8, 200#8, 1#8, 4#8, 1#8, 5#8, 204#8, 47#8, 67#8, 230#8]
theorem live_enc : encodeOf 300 [lb1, lb2] = (liveB, 0) := by kernel_rfl
theorem live_dec : decodeOf liveB = (300, [lb1, lb2], 0) := by kernel_rfl
theorem live_size : (allOf 0 []) = (sealed [1#8, 0#8, 0#8], 0) := by kernel_rfl
end Go.Ab
