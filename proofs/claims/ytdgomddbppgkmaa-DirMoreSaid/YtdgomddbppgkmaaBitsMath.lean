/- Proved here: plain facts on bytes as one number; no Go in it. Conditions: each lemma's own. -/
import Derived.Test.YtdgomddbppgkmaaCrcMath
namespace Go.Proofs.Ytdgomddbppgkmaa.BitsM
open Go.Proofs.Ytdgomddbppgkmaa.CrcM

theorem val_append : ∀ (a b : List Nat), val (a ++ b) = val a + 2 ^ (8 * a.length) * val b
  | [], b => by simp [val]
  | x :: a, b => by
    have ih := val_append a b
    have e : 2 ^ (8 * (x :: a).length) = 256 * 2 ^ (8 * a.length) := by
      rw [List.length_cons, Nat.mul_succ, Nat.pow_add, Nat.mul_comm]
    simp only [List.cons_append, val]
    rw [ih, e, Nat.mul_add, Nat.mul_assoc]
    omega
theorem val_zero (a : List Nat) : val (a ++ [0]) = val a := by
  rw [val_append]; simp [val]
theorem val_lt : ∀ (a : List Nat), (∀ b ∈ a, b < 256) → val a < 2 ^ (8 * a.length)
  | [], _ => by simp [val]
  | x :: a, h => by
    have ih := val_lt a (fun b hb => h b (by simp [hb]))
    have hx := h x (by simp)
    have e : 2 ^ (8 * (x :: a).length) = 256 * 2 ^ (8 * a.length) := by
      rw [List.length_cons, Nat.mul_succ, Nat.pow_add, Nat.mul_comm]
    simp only [val]
    rw [e]
    omega
theorem val_inj : ∀ (a b : List Nat), a.length = b.length → (∀ x ∈ a, x < 256) → (∀ x ∈ b, x < 256) → val a = val b → a = b
  | [], [], _, _, _, _ => rfl
  | x :: a, y :: b, hl, ha, hb, hv => by
    have hx := ha x (by simp)
    have hy := hb y (by simp)
    simp only [val] at hv
    have h1 : x = y := by omega
    have h2 : val a = val b := by omega
    rw [h1, val_inj a b (by simpa using hl) (fun z hz => ha z (by simp [hz])) (fun z hz => hb z (by simp [hz])) h2]
  | [], _ :: _, hl, _, _, _ => by simp at hl
  | _ :: _, [], hl, _, _, _ => by simp at hl
theorem val_at : ∀ (a : List Nat) (q : Nat), (∀ x ∈ a, x < 256) → a.getD q 0 = val a / 2 ^ (8 * q) % 256
  | [], q, _ => by simp [val]
  | x :: a, 0, h => by
    have hx := h x (by simp)
    simp only [val, List.getD_cons_zero, Nat.mul_zero, Nat.pow_zero, Nat.div_one]
    omega
  | x :: a, q + 1, h => by
    have ih := val_at a q (fun z hz => h z (by simp [hz]))
    have hx := h x (by simp)
    have e : 2 ^ (8 * (q + 1)) = 256 * 2 ^ (8 * q) := by rw [Nat.mul_succ, Nat.pow_add, Nat.mul_comm]
    rw [List.getD_cons_succ, ih, e, ← Nat.div_div_eq_div_mul]
    simp only [val]
    have : (x + 256 * val a) / 256 = val a := by omega
    rw [this]
theorem val_set : ∀ (a : List Nat) (q x : Nat), q < a.length → val (a.set q x) + 2 ^ (8 * q) * a.getD q 0 = val a + 2 ^ (8 * q) * x
  | [], q, x, h => by simp at h
  | y :: a, 0, x, _ => by simp [val]; omega
  | y :: a, q + 1, x, h => by
    have ih := val_set a q x (by simpa using h)
    have e : 2 ^ (8 * (q + 1)) = 256 * 2 ^ (8 * q) := by rw [Nat.mul_succ, Nat.pow_add, Nat.mul_comm]
    simp only [List.set_cons_succ, val, List.getD_cons_succ]
    rw [e, Nat.mul_assoc, Nat.mul_assoc]
    omega
theorem set_lt {a : List Nat} (h : ∀ x ∈ a, x < 256) (q x : Nat) (hx : x < 256) : ∀ y ∈ a.set q x, y < 256 := fun y hy => by
  rcases List.mem_or_eq_of_mem_set hy with hy | rfl
  · exact h y hy
  · exact hx
theorem or_low (c b r : Nat) (hc : c < 2 ^ r) : c ||| (b * 2 ^ r) = c + b * 2 ^ r := by
  rw [Nat.mul_comm b, Nat.or_comm, ← Nat.two_pow_add_eq_or_of_lt hc, Nat.add_comm]
/-- The byte in which the next bit lies. -/
theorem last_lt (bs : List Nat) (m : Nat) (hb : ∀ x ∈ bs, x < 256) (hv : val bs < 2 ^ m) : bs.getD (m / 8) 0 < 2 ^ (m % 8) := by
  rw [val_at bs _ hb]
  have h8 : m = 8 * (m / 8) + m % 8 := by omega
  have h1 : val bs / 2 ^ (8 * (m / 8)) < 2 ^ (m % 8) := by
    rw [Nat.div_lt_iff_lt_mul (Nat.two_pow_pos _), ← Nat.pow_add, Nat.add_comm, ← h8]
    exact hv
  exact Nat.lt_of_le_of_lt (Nat.mod_le _ _) h1
/-- A bit more. -/
theorem step (bs : List Nat) (m b : Nat) (hb : ∀ x ∈ bs, x < 256) (hl : bs.length = m / 8 + 1) (hv : val bs < 2 ^ m) (h2 : b < 2) :
    bs.getD (m / 8) 0 ||| (b * 2 ^ (m % 8)) < 256 ∧ val (bs.set (m / 8) (bs.getD (m / 8) 0 ||| (b * 2 ^ (m % 8)))) = val bs + 2 ^ m * b := by
  have hc := last_lt bs m hb hv
  rw [or_low _ _ _ hc]
  have hp : 2 ^ (m % 8) * 2 ≤ 256 := by
    have : 2 ^ (m % 8) ≤ 2 ^ 7 := Nat.pow_le_pow_right (by omega) (by omega)
    omega
  have hb2 : b = 0 ∨ b = 1 := by omega
  refine ⟨by rcases hb2 with rfl | rfl <;> omega, ?_⟩
  have hs := val_set bs (m / 8) (bs.getD (m / 8) 0 + b * 2 ^ (m % 8)) (by omega)
  have hm : 2 ^ m = 2 ^ (8 * (m / 8)) * 2 ^ (m % 8) := by rw [← Nat.pow_add]; congr 1; omega
  have e : 2 ^ (8 * (m / 8)) * (bs.getD (m / 8) 0 + b * 2 ^ (m % 8)) = 2 ^ (8 * (m / 8)) * bs.getD (m / 8) 0 + 2 ^ m * b := by
    rw [Nat.mul_add, hm, Nat.mul_comm b, Nat.mul_assoc]
  omega
theorem bit_mod (x i : Nat) : x % 2 ^ (i + 1) = x % 2 ^ i + 2 ^ i * (x / 2 ^ i % 2) := by
  rw [Nat.pow_succ, Nat.mod_mul]
theorem put_step (V m v i : Nat) : V + 2 ^ m * (v % 2 ^ i) + 2 ^ (m + i) * (v / 2 ^ i % 2) = V + 2 ^ m * (v % 2 ^ (i + 1)) := by
  rw [bit_mod, Nat.mul_add, Nat.pow_add, Nat.mul_assoc, Nat.add_assoc]
theorem add_lt_pow {V m x : Nat} (h : V < 2 ^ m) (n : Nat) (hx : x < 2 ^ n) : V + 2 ^ m * x < 2 ^ (m + n) := by
  rw [Nat.pow_add]
  have : 2 ^ m * (x + 1) ≤ 2 ^ m * 2 ^ n := Nat.mul_le_mul_left _ hx
  rw [Nat.mul_add] at this
  omega
end Go.Proofs.Ytdgomddbppgkmaa.BitsM
