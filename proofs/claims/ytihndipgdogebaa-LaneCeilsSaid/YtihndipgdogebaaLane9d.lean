/- What the program's Answered makes of a lane: joined. -/
import Derived.Test.YtihndipgdogebaaLane9a
import Derived.Test.YtihndipgdogebaaLane9b
import Derived.Test.YtihndipgdogebaaLane9c
namespace Go.Proofs.Ytihndipgdogebaa
open Go.RowKit
set_option maxHeartbeats 4000000 in
theorem laneAnswered (L : Ln) (ao : Option Addr) (cap : Nat) (g c ss sn b : Int) (hc0 : 0 ≤ c) (hc1 : c ≤ 18446744073709551615) (hss : ss ≤ 9223372036854775807) (w : World) (hf : L.fits) (hr : Rd w ao L.key) :
   Calls Try.prog 34 #[L.val ao cap, .int .i64 g, .int .u64 c, .agg #[.int .i64 ss, .int .i64 sn], .int .i64 b] w fun e w' => ∃ ao' cap', e = .returned (.tuple #[(answeredL L g c ss sn b).val ao' cap', .int .u64 (atA L g c ss sn b)]) ∧ Mine w' w.heap.size 5 ao' cap' (answeredL L g c ss sn b).key ∧ Below w.heap.size w w' := by
  by_cases hok : L.ok = true
  · by_cases hbk : blkB b = true
    · by_cases h1 : L.cur < g
      · by_cases h2 : g ≤ 2147483647
        · by_cases h3 : c ≤ 18446744073709551614
          · by_cases hst : stampB ss sn = true
            · by_cases hls : lessB L.sec L.nano ss sn = true
              · by_cases hge : g ≤ L.next
                · exact laneAnswered_y1 L ao cap g c ss sn b hc0 hc1 hss w hf hr hok hbk h1 h2 h3 hst hls hge
                · exact laneAnswered_y0 L ao cap g c ss sn b hc0 hc1 hss w hf hr hok hbk h1 h2 h3 hst hls hge
              · exact laneAnswered_n6 L ao cap g c ss sn b hc0 hc1 hss w hf hr hok hbk h1 h2 h3 hst (by simpa using hls)
            · exact laneAnswered_n5 L ao cap g c ss sn b hc0 hc1 hss w hf hr hok hbk h1 h2 h3 (by simpa using hst)
          · exact laneAnswered_n4 L ao cap g c ss sn b hc0 hc1 hss w hf hr hok hbk h1 h2 h3
        · exact laneAnswered_n3 L ao cap g c ss sn b hc0 hc1 hss w hf hr hok hbk h1 h2
      · exact laneAnswered_n2 L ao cap g c ss sn b hc0 hc1 hss w hf hr hok hbk h1
    · exact laneAnswered_n1 L ao cap g c ss sn b hc0 hc1 hss w hf hr hok (by simpa using hbk)
  · exact laneAnswered_n0 L ao cap g c ss sn b hc0 hc1 hss w hf hr  (by simpa using hok)
end Go.Proofs.Ytihndipgdogebaa
