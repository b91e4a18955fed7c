/- TopBudgets: the law returns true for all items, fixes and limits: the walk. -/
import Derived.Test.YtplindidegmlkaaTopA
import Derived.Test.YtplindidegmlkaaTopP
import Derived.Test.YtplindidegmlkaaTopZ
namespace Go.Proofs.Ytplindidegmlkaa
open Go.RowKit Go.Sort
theorem top_w (a : Option Addr) (n c : Nat) (L : List It) (fa : Option Addr) (m fc : Nat) (F : List Fx) (x y : Int) (w : World) (h : SlO w a n L) (hc : n ≤ c) (hm : c ≤ maxLen) (hf : FlO w fa m F) (hc2 : m ≤ fc) (hm2 : fc ≤ maxLen) :
    Calls Try.prog 3 #[.slice a n c, .slice fa m fc, .agg #[.int .i64 x, .int .i64 y]] w fun e w' => e = .returned (.bool true) ∧ Below w.heap.size w w' := by
  cases hl : longB n
  case true => exact top_long a n c L fa m fc F x y w h hc hm hf hc2 hm2 hl
  case false =>
    by_cases h50 : (50 : Int) < m
    · exact top_50 a n c L fa m fc F x y w h hc hm hf hc2 hm2 hl h50
    · by_cases h0 : vErr L = 0
      · by_cases htp : 0 < totN L
        · exact top_pos a n c L fa m fc F x y w h hc hm hf hc2 hm2 hl h50 h0 htp
        · exact top_zero a n c L fa m fc F x y w h hc hm hf hc2 hm2 hl h50 h0 htp
      · exact top_bad a n c L fa m fc F x y w h hc hm hf hc2 hm2 hl h50 (by simp [h0])
end Go.Proofs.Ytplindidegmlkaa
