/- Proved here: plain facts on directories, with no program in them: a list of numbers that may be put, the number whose bits 1 are at these places, its 32 bytes, and the places read back. Conditions: each theorem's own. -/
import Derived.Test.YtdgomddbppgkmaaBitsMath
namespace Go.Proofs.Ytdgomddbppgkmaa.DirM
open Go.Proofs.Ytdgomddbppgkmaa.CrcM Go.Proofs.Ytdgomddbppgkmaa.BitsM

def put32 (V : Nat) : List Nat := (List.range 32).map fun q => V / 2 ^ (8 * q) % 256
theorem eq_put32 (bs : List Nat) (hb : ∀ x ∈ bs, x < 256) (hl : bs.length = 32) : bs = put32 (val bs) := by
  apply List.ext_getElem
  · simp [put32, hl]
  · intro i h1 h2
    have h := val_at bs i hb
    rw [List.getD_eq_getElem?_getD, List.getElem?_eq_getElem h1] at h
    simp [put32]
    simpa using h
theorem put32_len (V : Nat) : (put32 V).length = 32 := by simp [put32]
theorem put32_lt (V : Nat) : ∀ x ∈ put32 V, x < 256 := by
  intro x hx
  obtain ⟨q, _, rfl⟩ := List.mem_map.1 hx
  exact Nat.mod_lt _ (by omega)
theorem val_reps (n : Nat) : val (List.replicate n 0) = 0 := by
  induction n with
  | zero => rfl
  | succ n ih => rw [List.replicate_succ]; simp [CrcM.val, ih]
theorem val_pad (bs : List Nat) (n : Nat) : val (bs ++ List.replicate n 0) = val bs := by
  rw [val_append, val_reps]; simp

/-- The i-th number can't follow what is ahead of it. -/
def bad (zs : List Int) (i : Nat) : Bool := decide (256 ≤ zs.getD i 0) || (decide (0 < i) && decide (zs.getD i 0 ≤ zs.getD (i - 1) 0))
def Gd (zs : List Int) (k : Nat) : Prop := zs.getD 0 0 = 0 ∧ ∀ i, i < k → bad zs i = false
def okL (zs : List Int) : Bool := decide (0 < zs.length) && (decide (zs.getD 0 0 = 0) && (List.range zs.length).all fun i => !bad zs i)
def sumTo (zs : List Int) : Nat → Nat
  | 0 => 0
  | k + 1 => sumTo zs k + 2 ^ (zs.getD k 0).toNat
def lastP (zs : List Int) (k : Nat) : Nat := if k = 0 then 0 else (zs.getD (k - 1) 0).toNat + 1
def putB (zs : List Int) : List Nat := if okL zs then put32 (sumTo zs zs.length) else []

theorem bad_iff (zs : List Int) (i : Nat) : bad zs i = true ↔ 256 ≤ zs.getD i 0 ∨ (0 < i ∧ zs.getD i 0 ≤ zs.getD (i - 1) 0) := by
  simp [bad]
theorem bad_not (zs : List Int) (i : Nat) : bad zs i = false ↔ zs.getD i 0 < 256 ∧ (0 < i → zs.getD (i - 1) 0 < zs.getD i 0) := by
  rw [← Bool.not_eq_true, bad_iff]
  constructor
  · intro h
    exact ⟨by omega, fun h0 => by omega⟩
  · rintro ⟨h1, h2⟩ (h | ⟨h0, h⟩)
    · omega
    · have := h2 h0; omega
theorem Gd.nonneg {zs : List Int} {k : Nat} (h : Gd zs k) : ∀ i, i < k → 0 ≤ zs.getD i 0 := by
  intro i
  induction i with
  | zero => intro _; rw [h.1]; omega
  | succ i ih =>
    intro hi
    have := ih (by omega)
    have h2 := ((bad_not zs (i + 1)).1 (h.2 _ hi)).2 (by omega)
    rw [Nat.add_sub_cancel] at h2
    omega
theorem Gd.lt {zs : List Int} {k : Nat} (h : Gd zs k) (i : Nat) (hi : i < k) : zs.getD i 0 < 256 := ((bad_not zs i).1 (h.2 _ hi)).1
theorem Gd.succ {zs : List Int} {k : Nat} (h : Gd zs k) (hb : bad zs k = false) : Gd zs (k + 1) :=
  ⟨h.1, fun i hi => by
    by_cases e : i = k
    · rw [e]; exact hb
    · exact h.2 i (by omega)⟩
theorem Gd.last {zs : List Int} {k : Nat} (h : Gd zs (k + 1)) : lastP zs k ≤ (zs.getD k 0).toNat := by
  unfold lastP
  split
  · omega
  · rename_i hk
    have h2 := ((bad_not zs k).1 (h.2 k (by omega))).2 (by omega)
    have h0 := h.nonneg (k - 1) (by omega)
    omega
theorem Gd.sum_lt {zs : List Int} {k : Nat} (h : Gd zs k) : sumTo zs k < 2 ^ lastP zs k := by
  induction k with
  | zero => simp [sumTo, lastP]
  | succ k ih =>
    have ih := ih ⟨h.1, fun i hi => h.2 i (by omega)⟩
    have hl := h.last
    have : 2 ^ lastP zs k ≤ 2 ^ (zs.getD k 0).toNat := Nat.pow_le_pow_right (by omega) hl
    rw [sumTo, lastP, if_neg (by omega), Nat.add_sub_cancel, Nat.pow_succ]
    omega
theorem Gd.last_le {zs : List Int} {k : Nat} (h : Gd zs k) : lastP zs k ≤ 256 := by
  unfold lastP
  split
  · omega
  · have h1 := h.lt (k - 1) (by omega)
    omega
theorem ok_of_good {zs : List Int} (h0 : 0 < zs.length) (h : Gd zs zs.length) : okL zs = true := by
  simp only [okL, Bool.and_eq_true, decide_eq_true_eq, List.all_eq_true, List.mem_range]
  exact ⟨h0, h.1, fun i hi => by rw [h.2 i hi]; rfl⟩
theorem good_of_ok {zs : List Int} (h : okL zs = true) : 0 < zs.length ∧ Gd zs zs.length := by
  simp only [okL, Bool.and_eq_true, decide_eq_true_eq, List.all_eq_true, List.mem_range] at h
  exact ⟨h.1, h.2.1, fun i hi => by simpa using h.2.2 i hi⟩
theorem not_ok_bad {zs : List Int} {i : Nat} (hi : i < zs.length) (hb : bad zs i = true) : okL zs = false := by
  rw [← Bool.not_eq_true]
  intro h
  have := (good_of_ok h).2.2 i hi
  rw [hb] at this; cases this
theorem not_ok_head {zs : List Int} (h : zs.length = 0 ∨ zs.getD 0 0 ≠ 0) : okL zs = false := by
  rw [← Bool.not_eq_true]
  intro h'
  have := good_of_ok h'
  rcases h with h | h
  · omega
  · exact h this.2.1
theorem add_bit (bs : List Nat) (X : Nat) (hb : ∀ x ∈ bs, x < 256) (hl : bs.length = 32) (hX : X < 256) (hv : val bs < 2 ^ X) :
    bs.getD (X / 8) 0 + 2 ^ (X % 8) < 256 ∧ val (bs.set (X / 8) (bs.getD (X / 8) 0 + 2 ^ (X % 8))) = val bs + 2 ^ X ∧
      (((bs.getD (X / 8) 0 : Nat) : Int) + 2 ^ (X % 8)) % 256 = ((bs.getD (X / 8) 0 + 2 ^ (X % 8) : Nat) : Int) := by
  have h1 := last_lt bs X hb hv
  have hp : 2 ^ (X % 8) ≤ 2 ^ 7 := Nat.pow_le_pow_right (by omega) (by omega)
  have h2 : bs.getD (X / 8) 0 + 2 ^ (X % 8) < 256 := by omega
  refine ⟨h2, ?_, ?_⟩
  · have h3 := val_set bs (X / 8) (bs.getD (X / 8) 0 + 2 ^ (X % 8)) (by omega)
    have e : 2 ^ X = 2 ^ (8 * (X / 8)) * 2 ^ (X % 8) := by rw [← Nat.pow_add]; congr 1; omega
    rw [Nat.mul_add] at h3
    omega
  · have e : ((2 : Int) ^ (X % 8)) = ((2 ^ (X % 8) : Nat) : Int) := by simp
    rw [e]; omega
end Go.Proofs.Ytdgomddbppgkmaa.DirM
