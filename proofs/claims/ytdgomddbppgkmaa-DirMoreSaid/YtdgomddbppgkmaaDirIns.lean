/- Proved here: plain facts on one more place: where it is put into a rising list, and what number and which bytes come of it. Conditions: each theorem's own. -/
import Derived.Test.YtdgomddbppgkmaaDirBack
namespace Go.Proofs.Ytdgomddbppgkmaa.Dir
open Go.Proofs.Ytdgomddbppgkmaa.CrcM Go.Proofs.Ytdgomddbppgkmaa.BitsM Go.Proofs.Ytdgomddbppgkmaa.DirM

def with1 (p : Nat → Bool) (C : Nat) : Nat → Bool := fun j => p j || j == C
/-- What the law's loop has gathered behind the places P of L. -/
def gath (L : List Nat) (C : Nat) (P : List Nat) : List Nat :=
  if C ∈ L then P else P.filter (fun j => decide (j < C)) ++ ((if (P.any fun j => decide (C < j)) then [C] else []) ++ P.filter (fun j => decide (C < j)))
def inA (C : Nat) (P : List Nat) : Bool := decide (C ∈ P)
def putA (L : List Nat) (C : Nat) (P : List Nat) : Bool := !decide (C ∈ L) && P.any fun j => decide (C < j)

theorem pl_pair (p : Nat → Bool) (n : Nat) : (pl p n).Pairwise (· < ·) := List.Pairwise.filter _ List.pairwise_lt_range
theorem take_lt {L : List Nat} (hp : L.Pairwise (· < ·)) (k : Nat) (hk : k < L.length) : ∀ j ∈ L.take k, j < L[k] := by
  intro j hj
  obtain ⟨i, hi, rfl⟩ := List.mem_iff_getElem.1 hj
  rw [List.length_take] at hi
  rw [List.getElem_take]
  exact List.pairwise_iff_getElem.1 hp i k (by omega) hk (by omega)
theorem in_later {L : List Nat} (hp : L.Pairwise (· < ·)) (k : Nat) (hk : k < L.length) (C : Nat) (hC : C ∈ L) (h : C < L[k]) : C ∈ L.take k := by
  obtain ⟨i, hi, rfl⟩ := List.mem_iff_getElem.1 hC
  have hik : i < k := by
    rcases Nat.lt_or_ge i k with h2 | h2
    · exact h2
    · rcases Nat.lt_or_ge k i with h3 | h3
      · have := List.pairwise_iff_getElem.1 hp k i hk hi h3; omega
      · have : i = k := by omega
        subst this; omega
  exact List.mem_iff_getElem.2 ⟨i, by rw [List.length_take]; omega, by rw [List.getElem_take]⟩
theorem take_snoc (L : List Nat) (k : Nat) (hk : k < L.length) : L.take (k + 1) = L.take k ++ [L[k]] := (List.take_append_getElem hk).symm

theorem gath_nil (L : List Nat) (C : Nat) : gath L C [] = [] := by
  unfold gath; split <;> simp
/-- x = C, or x < C: x alone comes behind. -/
theorem gath_le {L P : List Nat} {C x : Nat} (hx : ∀ j ∈ P, j < x) (hm : x ∈ L) (h : x ≤ C) :
    gath L C (P ++ [x]) = gath L C P ++ [x] ∧ putA L C (P ++ [x]) = putA L C P := by
  have hn : P.any (fun j => decide (C < j)) = false := by
    rw [List.any_eq_false]; intro j hj; have := hx j hj; simp; omega
  have hf : P.filter (fun j => decide (C < j)) = [] := by
    rw [List.filter_eq_nil_iff]; intro j hj; have := hx j hj; simp; omega
  have hng : ¬ C < x := by omega
  have hn2 : (P ++ [x]).any (fun j => decide (C < j)) = false := by rw [List.any_append, hn]; simp; omega
  refine ⟨?_, by rw [putA, putA, hn, hn2]⟩
  unfold gath
  by_cases hC : C ∈ L
  · rw [if_pos hC, if_pos hC]
  · rw [if_neg hC, if_neg hC]
    have hlt : x < C := by
      rcases Nat.lt_or_ge x C with h2 | h2
      · exact h2
      · have e : x = C := by omega
        rw [e] at hm; exact absurd hm hC
    rw [hn, hn2, List.filter_append, List.filter_append, hf]
    simp [hlt, hng]
/-- x > C, C behind us or put already: x alone. -/
theorem gath_gt {L P : List Nat} {C x : Nat} (hPL : ∀ j ∈ P, j ∈ L) (h : C < x) (hb : inA C P = true ∨ putA L C P = true) :
    gath L C (P ++ [x]) = gath L C P ++ [x] ∧ putA L C (P ++ [x]) = putA L C P := by
  by_cases hC : C ∈ L
  · exact ⟨by unfold gath; rw [if_pos hC, if_pos hC], by simp [putA, hC]⟩
  · rcases hb with hb | hb
    · exact absurd (hPL C (by simpa [inA] using hb)) hC
    · have ha : P.any (fun j => decide (C < j)) = true := by
        simp only [putA, Bool.and_eq_true] at hb; exact hb.2
      have ha2 : (P ++ [x]).any (fun j => decide (C < j)) = true := by rw [List.any_append, ha]; rfl
      have hng : ¬ x < C := by omega
      refine ⟨?_, by rw [putA, putA, ha, ha2]⟩
      unfold gath
      rw [if_neg hC, if_neg hC, if_pos ha, if_pos ha2, List.filter_append, List.filter_append]
      simp [h, hng]
/-- x > C, C neither behind us nor put: C, then x. -/
theorem gath_put {L P : List Nat} {C x : Nat} (hin : C ∈ L → C ∈ P) (h : C < x) (ha : inA C P = false) (hb : putA L C P = false) :
    gath L C (P ++ [x]) = (gath L C P ++ [C]) ++ [x] ∧ putA L C (P ++ [x]) = true := by
  have hC : ¬ C ∈ L := fun hC => by
    have := hin hC
    simp [inA] at ha; exact ha this
  have hn : P.any (fun j => decide (C < j)) = false := by
    simpa [putA, hC] using hb
  have hf : P.filter (fun j => decide (C < j)) = [] := by
    rw [List.filter_eq_nil_iff]; intro j hj
    have := List.any_eq_false.1 hn j hj
    simpa using this
  have ha2 : (P ++ [x]).any (fun j => decide (C < j)) = true := by rw [List.any_append]; simp [h]
  have hng : ¬ x < C := by omega
  refine ⟨?_, by rw [putA, ha2]; simp [hC]⟩
  unfold gath
  rw [if_neg hC, if_neg hC, hn, if_pos ha2, List.filter_append, List.filter_append, hf]
  simp [h, hng]
theorem inA_snoc (C : Nat) (P : List Nat) (x : Nat) : inA C (P ++ [x]) = (inA C P || decide (C = x)) := by
  simp [inA]
/-- What the law hands to the second Put. -/
def gathEnd (L : List Nat) (C : Nat) : List Nat := gath L C L ++ (if inA C L = false ∧ putA L C L = false then [C] else [])
theorem pl_lt (p : Nat → Bool) (n : Nat) : ∀ j ∈ pl p n, j < n := fun _ hj => List.mem_range.1 (List.mem_filter.1 hj).1
theorem mem_pl (p : Nat → Bool) (n j : Nat) : j ∈ pl p n ↔ j < n ∧ p j = true := by simp [pl]
theorem pl_with (p : Nat → Bool) (C : Nat) (hp : p C = false) : ∀ n, C < n →
    pl (with1 p C) n = (pl p n).filter (fun j => decide (j < C)) ++ (C :: (pl p n).filter (fun j => decide (C < j))) := by
  intro n
  induction n with
  | zero => intro h; omega
  | succ n ih =>
    intro hn
    by_cases e : C = n
    · subst e
      have e1 : pl (with1 p C) C = pl p C := List.filter_congr fun j hj => by
        have := List.mem_range.1 hj
        have hne : ¬ j = C := by omega
        simp [with1, hne]
      have e2 : (pl p C).filter (fun j => decide (j < C)) = pl p C := by
        rw [List.filter_eq_self]; intro j hj; simpa using pl_lt p C j hj
      have e3 : (pl p C).filter (fun j => decide (C < j)) = [] := by
        rw [List.filter_eq_nil_iff]; intro j hj; have := pl_lt p C j hj; simp; omega
      rw [pl_succ, pl_succ, e1, if_pos (show with1 p C C = true from by simp [with1]), if_neg (show ¬ p C = true by rw [hp]; simp), List.append_nil, e2, e3]
    · have hCn : C < n := by omega
      have hq : with1 p C n = p n := by
        have hne : ¬ n = C := by omega
        simp [with1, hne]
      have hng : ¬ n < C := by omega
      rw [pl_succ, pl_succ, ih hCn, hq]
      by_cases h : p n = true
      · rw [if_pos h, List.filter_append, List.filter_append]
        simp [hCn, hng]
      · rw [if_neg h, List.append_nil, List.append_nil]
theorem gathEnd_eq (p : Nat → Bool) (C : Nat) (hC : C < 256) : gathEnd (pl p 256) C = pl (with1 p C) 256 := by
  by_cases hp : p C = true
  · have hm : C ∈ pl p 256 := (mem_pl p 256 C).2 ⟨hC, hp⟩
    have e : pl (with1 p C) 256 = pl p 256 := List.filter_congr fun j _ => by
      by_cases hj : j = C
      · subst hj; simp [with1, hp]
      · simp [with1, hj]
    rw [gathEnd, gath, if_pos hm, if_neg (by simp [inA, hm]), List.append_nil, e]
  · have hpf : p C = false := by simpa using hp
    have hm : ¬ C ∈ pl p 256 := fun h => hp ((mem_pl p 256 C).1 h).2
    rw [pl_with p C hpf 256 hC, gathEnd, gath, if_neg hm]
    by_cases ha : ((pl p 256).any fun j => decide (C < j)) = true
    · rw [if_pos ha, if_neg (by simp only [putA, ha]; simp [hm])]
      simp
    · have haf : ((pl p 256).any fun j => decide (C < j)) = false := by simpa using ha
      have hf : (pl p 256).filter (fun j => decide (C < j)) = [] := by
        rw [List.filter_eq_nil_iff]; intro j hj
        have := List.any_eq_false.1 haf j hj
        simpa using this
      rw [if_neg ha, if_pos (by simp only [inA, putA, haf]; simp [hm]), hf]
      simp
theorem sum_with (p : Nat → Bool) (C : Nat) : ∀ n, C < n → sumL (pl (with1 p C) n) = sumL (pl p n) + (if p C then 0 else 2 ^ C) := by
  intro n
  induction n with
  | zero => intro h; omega
  | succ n ih =>
    intro hn
    rw [sumL_succ, sumL_succ]
    by_cases e : C = n
    · subst e
      have e1 : pl (with1 p C) C = pl p C := List.filter_congr fun j hj => by
        have := List.mem_range.1 hj
        have hne : ¬ j = C := by omega
        simp [with1, hne]
      rw [e1, if_pos (by simp [with1])]
      by_cases h : p C <;> simp [h]
    · have hq : with1 p C n = p n := by
        have hne : ¬ n = C := by omega
        simp [with1, hne]
      rw [ih (by omega), hq]; omega
theorem or_bit_fin : ∀ x : Fin 256, ∀ r : Fin 8, x.val ||| 2 ^ r.val = (if x.val / 2 ^ r.val % 2 = 1 then x.val else x.val + 2 ^ r.val) ∧ x.val ||| 2 ^ r.val < 256 := by decide +kernel
theorem or_bit (x r : Nat) (hx : x < 256) (hr : r < 8) : x ||| 2 ^ r = (if x / 2 ^ r % 2 = 1 then x else x + 2 ^ r) ∧ x ||| 2 ^ r < 256 := or_bit_fin ⟨x, hx⟩ ⟨r, hr⟩
theorem put32_at (V i : Nat) (h : V < 2 ^ 256) : (put32 V).getD i 0 = V / 2 ^ (8 * i) % 256 := by
  have := val_at (put32 V) i (put32_lt V)
  rwa [val_put32 V h] at this
theorem set_put (p : Nat → Bool) (C : Nat) (hC : C < 256) :
    (put32 (sumL (pl p 256))).set (C / 8) ((put32 (sumL (pl p 256))).getD (C / 8) 0 ||| 2 ^ (C % 8)) = put32 (sumL (pl (with1 p C) 256)) ∧
      (put32 (sumL (pl p 256))).getD (C / 8) 0 ||| 2 ^ (C % 8) < 256 := by
  have hS := sumL_lt p 256
  have ht := tb_sum p 256 C hC
  rw [sum_with p C 256 hC]
  generalize sumL (pl p 256) = S at *
  have hy := put32_at S (C / 8) hS
  have hlow := bit_low S C _ hy
  have hy8 : (put32 S).getD (C / 8) 0 < 256 := by rw [hy]; exact Nat.mod_lt _ (by omega)
  have hvs := val_set (put32 S) (C / 8)
  rw [val_put32 S hS, put32_len] at hvs
  generalize hyy : (put32 S).getD (C / 8) 0 = y at *
  obtain ⟨h1, h2⟩ := or_bit y (C % 8) hy8 (by omega)
  refine ⟨?_, h2⟩
  have hvs2 := hvs (y ||| 2 ^ (C % 8)) (by omega)
  have e : 2 ^ C = 2 ^ (8 * (C / 8)) * 2 ^ (C % 8) := by rw [← Nat.pow_add]; congr 1; omega
  have hb : ∀ x ∈ (put32 S).set (C / 8) (y ||| 2 ^ (C % 8)), x < 256 := fun x hx => by
    rcases List.mem_or_eq_of_mem_set hx with h | h
    · exact put32_lt S x h
    · rw [h]; exact h2
  have hq := eq_put32 _ hb (by rw [List.length_set, put32_len])
  rw [hq]
  congr 1
  unfold tb at ht
  rw [hlow] at ht
  by_cases hp : p C = true
  · rw [hp] at ht
    have hbit : y / 2 ^ (C % 8) % 2 = 1 := by simpa using ht
    rw [if_pos hbit] at h1
    rw [if_pos hp]
    rw [h1] at hvs2 ⊢
    omega
  · have hpf : p C = false := by simpa using hp
    rw [hpf] at ht
    have hbit : ¬ y / 2 ^ (C % 8) % 2 = 1 := by simpa using ht
    rw [if_neg hbit] at h1
    rw [if_neg hp, e]
    rw [h1, Nat.mul_add] at hvs2
    rw [h1]
    omega
theorem has_put (p : Nat → Bool) (C : Nat) (hC : C < 256) : hasV (put32 (sumL (pl p 256))) (C : Int) = p C := by
  rw [hasV_tb _ (by rw [put32_len]; omega) C hC, List.take_of_length_le (by rw [put32_len]; omega), val_put32 _ (sumL_lt p 256), tb_sum p 256 C hC]
end Go.Proofs.Ytdgomddbppgkmaa.Dir
