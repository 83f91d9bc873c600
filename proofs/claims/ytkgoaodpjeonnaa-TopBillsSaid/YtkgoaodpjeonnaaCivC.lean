/- Contracts of the reference's Days and Date. -/
import Derived.Test.YtkgoaodpjeonnaaCivB
namespace Go.Proofs.Ytkgoaodpjeonnaa
open Go.RowKit

theorem results_tmp4 {fn : Func} {t u v x : Tmp} (h : fn.results = #[.tmp t, .tmp u, .tmp v, .tmp x]) (tmps : Array Value) (P : Program) (w : World) :
    (results fn tmps).run P w = .ok (.tuple #[tmps.getD t undef, tmps.getD u undef, tmps.getD v undef, tmps.getD x undef]) w := by simp [results, h]

/-- The date of a number: there is one, and it is the only one. -/
def IsDate (n y m d : Int) : Prop := Cal.Valid y m d ∧ Cal.num y m d = n
/-- What a call of Date comes to. -/
def DateOf (n : Int) (e : Ending) : Prop := ∃ y m d, IsDate n y m d ∧ e = .returned (.tuple #[.int .i64 y, .int .i64 m, .int .i64 d, .int .i64 0])

theorem dateOf_mk (n y m r : Int) (h1 : 1 ≤ y) (h2 : y ≤ 9999) (h3 : 1 ≤ m) (h4 : m ≤ 12) (h5 : 0 ≤ r) (h6 : r < Cal.dim y m) (h7 : n = Cal.dby y + Cal.cum y m + r) :
    DateOf n (.returned (.tuple #[.int .i64 y, .int .i64 m, .int .i64 (r + 1), .int .i64 0])) :=
  ⟨y, m, r + 1, ⟨⟨h1, h2, h3, h4, by omega, by omega⟩, by unfold Cal.num; omega⟩, rfl⟩

end Go.Proofs.Ytkgoaodpjeonnaa
