/- Jobs and nights: the plain words. -/
import Derived.Test.YtkcfalehebacpaaLib
namespace Go.Proofs.Ytkcfalehebacpaa
open Go.RowKit
structure Job where
  n : Int
  road : Int
  chain : Int
  first : Int
  last : Int
  crew : Int
  dry : Bool
  warm : Bool
structure Nit where
  day : Int
  road : Int
  lo : Int
  hi : Int
  crew : Int
  pl : Int
  rain : Bool
  frost : Bool
instance : Inhabited Job := ⟨⟨0, 0, 0, 0, 0, 0, false, false⟩⟩
instance : Inhabited Nit := ⟨⟨0, 0, 0, 0, 0, 0, false, false⟩⟩
def Job.enc (j : Job) : List Value := [.int .i64 j.n, .int .i64 j.road, .int .i64 j.chain, .int .i64 j.first, .int .i64 j.last, .int .i64 j.crew, .bool j.dry, .bool j.warm]
def Nit.enc (n : Nit) : List Value := [.int .i64 n.day, .int .i64 n.road, .int .i64 n.lo, .int .i64 n.hi, .int .i64 n.crew, .int .i64 n.pl, .bool n.rain, .bool n.frost]
def inB (a n b : Int) : Bool := decide (a ≤ n) && decide (n ≤ b)
theorem inB_iff {a n b : Int} : inB a n b = true ↔ a ≤ n ∧ n ≤ b := by simp [inB]
theorem inB_false {a n b : Int} : inB a n b = false ↔ n < a ∨ b < n := by simp [inB]; omega
def fitsF (j : Job) (n : Nit) : Bool :=
  decide (j.road = n.road) && decide (j.crew = n.crew) && inB j.first n.day j.last && inB n.lo j.chain n.hi && !(j.dry && n.rain) && !(j.warm && n.frost)
def jobOk (j : Job) : Bool := inB 1 j.n 1000000000 && inB 1 j.road 1000000 && inB 0 j.chain 10000000 && decide (0 ≤ j.first) && decide (j.first ≤ j.last) && decide (j.last ≤ 100000) && inB 1 j.crew 9
def nitOk (n : Nit) : Bool := inB 0 n.day 100000 && inB 1 n.road 1000000 && decide (0 ≤ n.lo) && decide (n.lo ≤ n.hi) && decide (n.hi ≤ 10000000) && inB 1 n.crew 9 && inB 0 n.pl 100
/-- the numbers of the jobs before are other ones -/
def jobsOk : List Int → List Job → Bool
  | _, [] => true
  | seen, j :: r => jobOk j && !seen.contains j.n && jobsOk (j.n :: seen) r
/-- the error of jobs and nights -/
def wrongF (js : List Job) (ns : List Nit) : Int :=
  if !jobsOk [] js || decide (60 < js.length) then 80 else if decide (60 < ns.length) || ns.any (fun n => !nitOk n) then 81 else 0
def chooseF (ns : List Nit) (j : Job) : List Int := (ns.zipIdx.filter fun q => fitsF j q.1).map fun q => (q.2 : Int)
end Go.Proofs.Ytkcfalehebacpaa
