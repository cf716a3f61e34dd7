/- quashlaw01.does, whatever the step. -/
import Derived.Test.YtlpgcfgnimchaaaDoesFill
import Derived.Test.YtlpgcfgnimchaaaScript1
namespace Go.Proofs.Ytlpgcfgnimchaaa
open Go.RowKit
set_option linter.unusedVariables false

theorem does_any {w : World} {g lb gx lbx r b ry bx : Nat} {kind : Int} {l : List Int} {s : MS} (h : Pair w g lb gx lbx r b ry bx kind l s) (hl : s.log.length < 2199023255552) (hpos : 0 < l.length)
    (other : Bool) (kd i x old : Int) (A : Option Addr) (n cap : Nat) (xs : List Int) (hA : Ints .i64 w A n cap xs) (hne : 0 < n → ∀ ad, A = some ad → ad.block ≠ b ∧ ad.block ≠ bx) (hn : n ≤ 17592186044000) :
    Calls Try.prog 26 (doesArgs g gx r ry other kd i x old A n cap) w fun e w' => e = .returned (.bool true) ∧ Stepped g lb gx lbx r b ry bx kind l s w w' := by
  by_cases k1 : kd = 1
  · subst k1; exact does_begin h other i x old A n cap
  by_cases k2 : kd = 2
  · subst k2; exact does_load h hl other i x old A n cap
  by_cases k3 : kd = 3
  · subst k3; exact does_store h hl other i x old A n cap
  by_cases k4 : kd = 4
  · subst k4; exact does_trade h hl other i x old A n cap
  by_cases k5 : kd = 5
  · subst k5; exact does_fill h other i x old A n cap xs hA hne hn
  by_cases k6 : kd = 6
  · subst k6; exact does_all h hpos other i x old A n cap
  exact does_none h other kd i x old A n cap (by omega)
end Go.Proofs.Ytlpgcfgnimchaaa
