/- apiaryref06.pop walked: how many blobs a step takes, and puts. -/
import Derived.Test.YtegappcdmaodjaaDoorMfA
namespace Go.Proofs.YtegappcdmaodjaaDoor
open Go.RowKit

def popT (c : Int) : Int := if c = 105 ∨ c = 112 then 0 else if c = 99 ∨ c = 61 then 2 else if c = 115 then 2 else if c = 100 then 1 else if c = 120 ∨ c = 106 then 1 else if c = 103 then 0 else 1
def popG (c : Int) : Int := if c = 105 ∨ c = 112 then 1 else if c = 99 ∨ c = 61 then 1 else if c = 115 then 2 else if c = 100 then 2 else if c = 120 ∨ c = 106 then 0 else if c = 103 then 0 else 1

set_option maxHeartbeats 2000000 in
theorem rpop_any (c : Int) (w : World) : Calls Tryd.prog 36 #[.int .u8 c] w (Rets (.tuple #[.int .i64 (popT c), .int .i64 (popG c)]) (fun w' => w = w')) := by
  go_enter Tryd.func36, Tryd.ntmps36
  go_wp2
  all_goals (refine bodyPost_ret (v := .tuple #[.int .i64 (popT c), .int .i64 (popG c)]) ?_ rfl ⟨rfl, rfl⟩)
  all_goals simp_all [results, Tryd.results36, go_sem, popT, popG]
end Go.Proofs.YtegappcdmaodjaaDoor
