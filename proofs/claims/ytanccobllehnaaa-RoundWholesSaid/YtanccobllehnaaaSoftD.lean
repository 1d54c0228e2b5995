/- The contract of soft.DivBy. -/
import Derived.Test.YtanccobllehnaaaSoftF
import Derived.Deep.CutRange
import Derived.Deep.RegionHeld3
import Derived.BigQuiet
import Derived.Deep.QuietTactic
namespace Go.Proofs.Ytanccobllehnaaa
open Go.RowKit

theorem open_class {a : Nat} {xn xnan xinf : Bool} {xe : Int} {xs : Nat} (hx : openN a = ⟨xn, xnan, xinf, xe, xs⟩) :
    (xnan = true ∧ xinf = false ∧ xs = 0) ∨ (xnan = false ∧ xinf = true ∧ xs = 0) ∨ (xnan = false ∧ xinf = false ∧ xs = 0) ∨ (xnan = false ∧ xinf = false ∧ ¬ xs = 0) := by
  unfold openN at hx
  split at hx
  · injection hx with h1 h2 h3 h4 h5
    subst h2 h3 h5
    by_cases hf : a % 8388608 = 0
    · simp [hf]
    · simp [hf]
  · split at hx
    · injection hx with h1 h2 h3 h4 h5
      subst h2 h3 h5
      by_cases hf : a % 8388608 = 0
      · simp [hf]
      · simp [hf]
    · injection hx with h1 h2 h3 h4 h5
      subst h2 h3 h5
      simp
def fk (s : Nat) : Nat := 24 - blen s
def fm (s : Nat) : Nat := s * two (24 - blen s)
def divN (way : Int) (x y : Num) : Nat :=
  if (x.nan || y.nan || (x.inf && y.inf) || ((!x.inf && x.sig == 0) && (!y.inf && y.sig == 0))) = true then 2143289344
  else if (x.inf || (!y.inf && y.sig == 0)) = true then sgn (x.neg != y.neg) + 2139095040
  else if (y.inf || (!x.inf && x.sig == 0)) = true then sgn (x.neg != y.neg)
  else roundP way (x.neg != y.neg) ((x.exp - fk x.sig) - (y.exp - fk y.sig) - 38) (fm x.sig * 274877906944 / fm y.sig) (decide (fm x.sig * 274877906944 % fm y.sig ≠ 0))
def divP (way : Int) (a b : Nat) : Nat := divN way (openN a) (openN b)

end Go.Proofs.Ytanccobllehnaaa
