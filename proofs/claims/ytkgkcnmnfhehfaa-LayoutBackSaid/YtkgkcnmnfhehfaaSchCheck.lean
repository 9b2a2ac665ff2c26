/- What is proved: what the schema's Check answers. -/
import Derived.Test.YtkgkcnmnfhehfaaSchFields
import Derived.Test.YtkgkcnmnfhehfaaRegion
import Derived.Deep.Cut
import Derived.Deep.CutRange
import Derived.Deep.CutBlock
namespace Go.Proofs.Ytkgkcnmnfhehfaa
open Go.RowKit Go.Proofs.Heap Go.Proofs.Sch Go.Proofs.TMap

/-- The error of the components that are left. -/
def compsC : Int → List ByteArray → List Cmp → Nat
  | _, _, [] => 0
  | last, seen, c :: r => if c.id ≤ last ∨ 24 < c.id then 1 else if nameB c.name = false ∨ memB c.name seen = true then 4 else if fieldsC c.fs = 0 then compsC c.id (seen ++ [c.name]) r else fieldsC c.fs
/-- The error of a schema. -/
def checkC (v : Int) (cs : List Cmp) : Nat := if v < 1 ∨ 1073741824 < v then 1 else compsC 0 [] cs

/-- A schema of no great size. -/
def Small (cs : List Cmp) : Prop := cs.length ≤ 2932031007402 ∧ ∀ c ∈ cs, c.fs.length ≤ 4398046511104

end Go.Proofs.Ytkgkcnmnfhehfaa
