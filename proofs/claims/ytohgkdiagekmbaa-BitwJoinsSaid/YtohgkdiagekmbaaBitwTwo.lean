/- Proved here: two writers that share nothing; what is closed is the same where the same was put. Conditions: each theorem's own. -/
import Derived.Test.YtohgkdiagekmbaaBitwLaws
namespace Go.Proofs.Ytohgkdiagekmbaa.Bitw
open Go.RowKit Go.Proofs.YtohgkdiagekmbaaW.PrintWords Go.Proofs.Ytohgkdiagekmbaa.CrcM Go.Proofs.Ytohgkdiagekmbaa.BitsM Go.Proofs.Ytohgkdiagekmbaa.Base

/-- Two writers that share nothing. -/
def Apart2 (g : Nat) (v : Value) (g' : Nat) (v' : Value) : Prop := ∀ i, foot g v i → ¬ foot g' v' i
theorem Apart2.symm {g g' : Nat} {v v' : Value} (h : Apart2 g v g' v') : Apart2 g' v' g v := fun i a b => h i b a
theorem Apart2.next {w : World} {g g' B : Nat} {v v' v1 : Value} {bs : List Nat} {m : Nat} (h : Apart2 g v g' v') (hn : Next w v v1) (hw : Wr w B g' v' bs m) : Apart2 g v1 g' v' := by
  rintro i (e | e) b
  · exact h i (.inl e) b
  · rcases hn with hn | ⟨c, hc, hle⟩
    · exact h i (.inr (by rw [← hn]; exact e)) b
    · rw [hc] at e
      injection e with e
      have := hw.foot_lt i b
      omega
theorem Apart2.of {w w' : World} {B B' g g' : Nat} {v v' : Value} {bs bs' : List Nat} {m m' : Nat} (h : Wr w B g v bs m) (h' : Wr w' B' g' v' bs' m') (hB : w.heap.size ≤ B') : Apart2 g v g' v' := fun i a b => by
  have := h.foot_lt i a
  have := h'.foot_base i b
  omega
theorem closes_same (rs rs' : List Nat) (V W m : Nat) (hb : ∀ b ∈ rs, b < 256) (hb' : ∀ b ∈ rs', b < 256) (hl : rs.length = m / 8 + 1) (hl' : rs'.length = m / 8 + 1) (hv : val rs = V + 2 ^ m) (hv' : val rs' = W + 2 ^ m) (h : V = W) : (rs == rs') = true := by
  rw [beq_iff_eq]
  exact val_inj _ _ (by omega) hb hb' (by rw [hv, hv', h])

end Go.Proofs.Ytohgkdiagekmbaa.Bitw
