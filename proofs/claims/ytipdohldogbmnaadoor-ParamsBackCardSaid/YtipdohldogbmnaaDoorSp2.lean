/- What the params of a side are, as lists; no program. It asks nothing. -/
import Derived.Test.YtipdohldogbmnaaDoorSp1
set_option autoImplicit false
set_option linter.unusedVariables false
set_option linter.unusedSimpArgs false
namespace Ab
open Go
structure Par where (idle data : Int) (hg ho hr : Bool) (goal own retry : List UInt8) (chosen : Int) (vers : List Int)
def iB (n : Int) : List AV := [iA n]
abbrev iL (l : List Int) : AV := .sl 1 l.length (l.map iB)
def Par.cells (p : Par) : List AV := [iA p.idle, iA p.data, tA p.hg, tA p.ho, tA p.hr, aB p.goal, aB p.own, aB p.retry, iA p.chosen, iL p.vers]
/-- .. while the versions are still being told. -/
def Par.cellsV (p : Par) (v : AV) : List AV := [iA p.idle, iA p.data, tA p.hg, tA p.ho, tA p.hr, aB p.goal, aB p.own, aB p.retry, iA p.chosen, v]
def number (b : List UInt8) : Int := (vread b).1
def isNumber (b : List UInt8) : Bool := decide ((vread b).2.2 = 0 ∧ (vread b).2.1 = b.length)
end Ab
