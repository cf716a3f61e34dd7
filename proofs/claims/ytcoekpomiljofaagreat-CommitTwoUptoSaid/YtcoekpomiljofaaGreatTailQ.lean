/- A region that draws its order, whose operations only read but for the last ones: its reading part walked by the cheap step of 'go_quiet'. -/
import Derived.StillTailTactics
import Derived.Deep.QuietTactic
import Derived.BigQuiet
namespace Go.Proofs.YtcoekpomiljofaaGreat
open Go
set_option linter.unusedVariables false
theorem still_of_quiet {P : Program} {ops : Array Oper} {w : World} {Q : Act → Prop} : ∀ (l : List Oper) (a : Act), wpQuiet P ops (fun w' => w' = w) Q l a → wpStill P ops w Q l a
  | [], a, h => h
  | o :: rest, a, h => by
    unfold wpQuiet at h
    unfold wpStill
    split
    · rename_i hw
      rw [if_pos hw] at h
      obtain ⟨v, h1, h2⟩ := h
      have h3 := h1 w rfl
      unfold Oper.quietAt Oper.quietUpon at h3
      unfold Oper.still Oper.stillUpon
      split at h3
      · rename_i he
        rw [he]
        exact ⟨h3.1, by rw [h3.2]; exact still_of_quiet rest _ h2⟩
      · rename_i he
        rw [he]
        exact ⟨h3.1, by rw [← h3.2]; exact still_of_quiet rest _ h2⟩
      · rename_i he
        rw [he]
        exact ⟨h3.1, v, h3.2, still_of_quiet rest _ h2⟩
      · exact h3.elim
    · rename_i hw
      rw [if_neg hw] at h
      exact still_of_quiet rest _ h
theorem wp_region_tail_q {P : Program} {id : Nat} {Q : Exit → Act → World → Prop} {a : Act} {w : World} {l : List Oper} (n : Nat) (hm : P.follows .mixedOrders = true) (hB : Region.lexTailB .any l.toArray n = true)
    (h : wpQuiet P l.toArray (fun w' => w' = w.drew) (fun a' => wpList P l.toArray Q (l.drop n) a' w.drew) (l.take n) a) : (Code.region id l.toArray true).wp P Q a w :=
  wp_region_still_tail n hm hB (still_of_quiet _ _ h)
end Go.Proofs.YtcoekpomiljofaaGreat
