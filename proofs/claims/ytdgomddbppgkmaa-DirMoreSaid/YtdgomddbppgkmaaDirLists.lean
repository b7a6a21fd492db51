/- Proved here: plain facts on the places of bits: rising lists below 256 are the places of the bits 1 of one number, and the other way round. Conditions: each theorem's own. -/
import Derived.Test.YtdgomddbppgkmaaDirAwake
namespace Go.Proofs.Ytdgomddbppgkmaa.Dir
open Go.Proofs.Ytdgomddbppgkmaa.CrcM Go.Proofs.Ytdgomddbppgkmaa.BitsM Go.Proofs.Ytdgomddbppgkmaa.DirM

def pl (p : Nat → Bool) (n : Nat) : List Nat := (List.range n).filter p
def sumL (L : List Nat) : Nat := (L.map fun i => 2 ^ i).sum
theorem pl_succ (p : Nat → Bool) (n : Nat) : pl p (n + 1) = pl p n ++ (if p n then [n] else []) := by
  rw [pl, List.range_succ, List.filter_append]
  congr 1
  by_cases h : p n <;> simp [h]
theorem sumL_snoc (L : List Nat) (x : Nat) : sumL (L ++ [x]) = sumL L + 2 ^ x := by simp [sumL]
theorem sumL_succ (p : Nat → Bool) (n : Nat) : sumL (pl p (n + 1)) = sumL (pl p n) + 2 ^ n * (if p n then 1 else 0) := by
  rw [pl_succ]
  by_cases h : p n
  · rw [if_pos h, if_pos h, sumL_snoc]; omega
  · rw [if_neg h, if_neg h, List.append_nil]; omega
theorem sumL_lt (p : Nat → Bool) (n : Nat) : sumL (pl p n) < 2 ^ n := by
  induction n with
  | zero => simp [pl, sumL]
  | succ n ih =>
    rw [sumL_succ, Nat.pow_succ]
    split <;> omega
theorem sum_ones (V n : Nat) : sumL (onesTo V n) = V % 2 ^ n := by
  induction n with
  | zero => simp [onesTo, sumL, Nat.mod_one]
  | succ n ih =>
    have h := sumL_succ (tb V) n
    have e : sumL (onesTo V (n + 1)) = sumL (onesTo V n) + 2 ^ n * (if tb V n then 1 else 0) := h
    rw [e, ih, Nat.mod_pow_succ]
    congr 2
    unfold tb
    have := Nat.mod_two_eq_zero_or_one (V / 2 ^ n)
    rcases this with h | h <;> rw [h] <;> rfl
theorem tb_low (A n b i : Nat) (hi : i < n) : tb (A + 2 ^ n * b) i = tb A i := by
  unfold tb
  have e : 2 ^ n = 2 ^ i * (2 * 2 ^ (n - i - 1)) := by
    rw [← Nat.pow_succ', ← Nat.pow_add]; congr 1; omega
  have e2 : (A + 2 ^ n * b) / 2 ^ i = A / 2 ^ i + 2 * (2 ^ (n - i - 1) * b) := by
    rw [e, Nat.mul_assoc, Nat.mul_assoc, Nat.add_mul_div_left _ _ (Nat.two_pow_pos i)]
  rw [e2]
  congr 1
  omega
theorem tb_top (A n b : Nat) (hA : A < 2 ^ n) (hb : b < 2) : tb (A + 2 ^ n * b) n = (b == 1) := by
  unfold tb
  rw [Nat.add_mul_div_left _ _ (Nat.two_pow_pos n), Nat.div_eq_of_lt hA, Nat.zero_add, Nat.mod_eq_of_lt hb]
theorem tb_sum (p : Nat → Bool) (n i : Nat) (hi : i < n) : tb (sumL (pl p n)) i = p i := by
  induction n with
  | zero => omega
  | succ n ih =>
    rw [sumL_succ]
    by_cases e : i = n
    · subst e
      rw [tb_top _ _ _ (sumL_lt p i) (by split <;> omega)]
      by_cases h : p i <;> simp [h]
    · rw [tb_low _ _ _ _ (by omega)]
      exact ih (by omega)
theorem ones_sum (p : Nat → Bool) (n : Nat) : onesTo (sumL (pl p n)) n = pl p n := by
  apply List.filter_congr
  intro i hi
  exact tb_sum p n i (List.mem_range.1 hi)

theorem zl_getD (L : List Nat) (i : Nat) : (zl L).getD i 0 = ((L.getD i 0 : Nat) : Int) := by
  rw [zl, List.getD_eq_getElem?_getD, List.getElem?_map, List.getD_eq_getElem?_getD]
  cases L[i]? <;> rfl
theorem sumTo_take (L : List Nat) : ∀ k, k ≤ L.length → sumTo (zl L) k = sumL (L.take k) := by
  intro k
  induction k with
  | zero => intro _; rfl
  | succ k ih =>
    intro hk
    have e : L.take (k + 1) = L.take k ++ [L[k]'(by omega)] := (List.take_append_getElem (by omega)).symm
    rw [e, sumL_snoc, sumTo, ih (by omega), zl_getD, List.getD_eq_getElem?_getD, List.getElem?_eq_getElem (by omega)]
    simp
theorem sumTo_zl (L : List Nat) : sumTo (zl L) L.length = sumL L := by
  rw [sumTo_take L _ (Nat.le_refl _), List.take_length]
theorem pl_rise (p : Nat → Bool) (n : Nat) : ∀ i, i < (pl p n).length → (pl p n).getD i 0 < n ∧ (0 < i → (pl p n).getD (i - 1) 0 < (pl p n).getD i 0) := by
  intro i hi
  have hp : (pl p n).Pairwise (· < ·) := List.Pairwise.filter _ List.pairwise_lt_range
  have g : ∀ j, (hj : j < (pl p n).length) → (pl p n).getD j 0 = (pl p n)[j] := fun j hj => by
    rw [List.getD_eq_getElem?_getD, List.getElem?_eq_getElem hj]; rfl
  constructor
  · rw [g i hi]
    exact List.mem_range.1 (List.mem_filter.1 (List.getElem_mem hi)).1
  · intro h0
    rw [g i hi, g (i - 1) (by omega)]
    exact List.pairwise_iff_getElem.1 hp (i - 1) i (by omega) hi (by omega)
theorem head_pl (p : Nat → Bool) (n : Nat) : (pl p (n + 1)).head? = some 0 ↔ p 0 = true := by
  rw [pl, List.range_succ_eq_map, List.filter_cons]
  by_cases h : p 0 = true
  · simp [h]
  · rw [if_neg h]
    constructor
    · intro h2
      have := List.mem_of_mem_head? h2
      have := (List.mem_filter.1 this).1
      simp at this
    · intro h2; exact absurd h2 h
theorem ok_pl (p : Nat → Bool) (h0 : p 0 = true) : okL (zl (pl p 256)) = true := by
  have hh := (head_pl p 255).2 h0
  have hl : 0 < (pl p 256).length := by
    cases h : pl p 256 with
    | nil => rw [h] at hh; simp at hh
    | cons a r => simp
  have h00 : (pl p 256).getD 0 0 = 0 := by
    rw [List.getD_eq_getElem?_getD, ← List.head?_eq_getElem?, hh]; rfl
  refine ok_of_good (by rw [zl_len]; exact hl) ⟨by rw [zl_getD, h00]; rfl, fun i hi => ?_⟩
  rw [zl_len] at hi
  rw [bad_not, zl_getD, zl_getD]
  have h := pl_rise p 256 i hi
  exact ⟨by omega, fun hp => by have := h.2 hp; omega⟩
theorem put_pl (p : Nat → Bool) (h0 : p 0 = true) : putB (zl (pl p 256)) = put32 (sumL (pl p 256)) := by
  rw [putB, if_pos (ok_pl p h0), zl_len, sumTo_zl]
theorem put_ones (bs : List Nat) (hb : ∀ x ∈ bs, x < 256) (hl : bs.length = 32) (h0 : tb (val bs) 0 = true) : okL (zl (onesTo (val bs) 256)) = true ∧ putB (zl (onesTo (val bs) 256)) = bs := by
  refine ⟨ok_pl _ h0, ?_⟩
  have h := put_pl (tb (val bs)) h0
  have hs : sumL (pl (tb (val bs)) 256) = val bs := by
    have := sum_ones (val bs) 256
    have hv := val_lt bs hb
    rw [hl] at hv
    exact this.trans (Nat.mod_eq_of_lt hv)
  rw [hs, ← eq_put32 bs hb hl] at h
  exact h
end Go.Proofs.Ytdgomddbppgkmaa.Dir
