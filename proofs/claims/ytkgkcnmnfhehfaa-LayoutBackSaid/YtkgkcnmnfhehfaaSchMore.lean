/- What is proved: what FieldNamed and Ids of the schema's layer answer. -/
import Derived.Test.YtkgkcnmnfhehfaaSchFind2
namespace Go.Proofs.Ytkgkcnmnfhehfaa
open Go.RowKit Go.Proofs.Heap Go.Proofs.Sch

theorem results_tt {fn : Func} {p u : Tmp} (h : fn.results = #[.tmp p, .tmp u]) (tmps : Array Value) {P : Program} {w : World} : (results fn tmps).run P w = .ok (.tuple #[tmps.getD p undef, tmps.getD u undef]) w := by
  simp [results, h]

end Go.Proofs.Ytkgkcnmnfhehfaa
