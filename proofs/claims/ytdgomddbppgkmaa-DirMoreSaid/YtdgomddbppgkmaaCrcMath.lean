/- Proved here: plain facts on the sum of bytes (CRC-32) over natural numbers; no Go in it. Conditions: none beyond each lemma's own. -/
namespace Go.Proofs.Ytdgomddbppgkmaa.CrcM

/-- One bit is taken off. -/
def st (x : Nat) : Nat := (x / 2) ^^^ (x % 2 * 3988292384)
def stn : Nat → Nat → Nat
  | 0, x => x
  | n + 1, x => stn n (st x)
/-- Bytes as one number, the first one lowest. -/
def val : List Nat → Nat
  | [] => 0
  | b :: bs => b + 256 * val bs
def upd (x c : Nat) : Nat := (x / 256) ^^^ stn 8 ((x % 256) ^^^ c)
def run (x : Nat) (bs : List Nat) : Nat := bs.foldl upd x
def add (sum : Nat) (bs : List Nat) : Nat := 4294967295 - run (4294967295 - sum) bs

theorem xor_half (a b : Nat) : (a ^^^ b) / 2 = a / 2 ^^^ b / 2 := by
  have := Nat.shiftRight_xor_distrib (a := a) (b := b) (i := 1)
  simpa [Nat.shiftRight_eq_div_pow] using this
theorem xor_low (a b : Nat) : (a ^^^ b) % 2 = (a % 2 + b % 2) % 2 := by
  have h := Nat.xor_mod_two_pow (a := a) (b := b) (n := 1)
  simp only [Nat.pow_one] at h
  rw [h]
  have ha : a % 2 = 0 ∨ a % 2 = 1 := by omega
  have hb : b % 2 = 0 ∨ b % 2 = 1 := by omega
  rcases ha with e | e <;> rcases hb with k | k <;> rw [e, k] <;> rfl
theorem xor_swap (a b c d : Nat) : (a ^^^ b) ^^^ (c ^^^ d) = (a ^^^ c) ^^^ (b ^^^ d) := by
  rw [Nat.xor_assoc, Nat.xor_assoc, ← Nat.xor_assoc b c d, ← Nat.xor_assoc c b d, Nat.xor_comm b c]
theorem st_xor (a b : Nat) : st (a ^^^ b) = st a ^^^ st b := by
  unfold st
  rw [xor_half, xor_swap]
  congr 1
  rw [xor_low]
  have ha : a % 2 = 0 ∨ a % 2 = 1 := by omega
  have hb : b % 2 = 0 ∨ b % 2 = 1 := by omega
  rcases ha with h | h <;> rcases hb with k | k <;> rw [h, k] <;> simp
theorem stn_xor (n : Nat) : ∀ a b, stn n (a ^^^ b) = stn n a ^^^ stn n b := by
  induction n with
  | zero => intro a b; rfl
  | succ n ih => intro a b; simp only [stn]; rw [st_xor, ih]
theorem st_zero : st 0 = 0 := by simp [st]
theorem stn_zero (n : Nat) : stn n 0 = 0 := by
  induction n with
  | zero => rfl
  | succ n ih => simp only [stn]; rw [st_zero, ih]
theorem st_two (x : Nat) : st (2 * x) = x := by
  unfold st
  have h1 : 2 * x / 2 = x := by omega
  have h2 : 2 * x % 2 = 0 := by omega
  rw [h1, h2]; simp
theorem stn_add (m n : Nat) : ∀ x, stn (m + n) x = stn n (stn m x) := by
  induction m with
  | zero => intro x; rw [Nat.zero_add]; rfl
  | succ m ih => intro x; rw [Nat.succ_add]; simp only [stn]; exact ih _
theorem stn_pow (k : Nat) : ∀ x, stn k (2 ^ k * x) = x := by
  induction k with
  | zero => intro x; simp [stn]
  | succ k ih =>
    intro x
    simp only [stn]
    rw [Nat.pow_succ, Nat.mul_comm (2 ^ k) 2, Nat.mul_assoc, st_two]
    exact ih x
theorem split_xor (x k : Nat) : x = (x % 2 ^ k) ^^^ (2 ^ k * (x / 2 ^ k)) := by
  apply Nat.eq_of_testBit_eq
  intro i
  rw [Nat.testBit_xor, Nat.testBit_mod_two_pow, Nat.testBit_two_pow_mul, Nat.testBit_div_two_pow]
  by_cases h : i < k
  · have h' : ¬ k ≤ i := by omega
    simp [h, h']
  · have h' : k ≤ i := by omega
    simp [h, h']
theorem upd_eq (x c : Nat) : upd x c = stn 8 (x ^^^ c) := by
  have h := split_xor x 8
  have e : stn 8 (x ^^^ c) = stn 8 (((x % 256) ^^^ c) ^^^ (256 * (x / 256))) := by
    congr 1
    have h' : x = (x % 256) ^^^ (256 * (x / 256)) := h
    have k : ((x % 256) ^^^ c) ^^^ (256 * (x / 256)) = ((x % 256) ^^^ (256 * (x / 256))) ^^^ c := by
      rw [Nat.xor_assoc, Nat.xor_comm c, ← Nat.xor_assoc]
    rw [k, ← h']
  rw [e, stn_xor]
  have p : stn 8 (256 * (x / 256)) = x / 256 := stn_pow 8 (x / 256)
  rw [p, Nat.xor_comm]
  rfl
/-- Two that don't overlap. -/
theorem add_xor (b y k : Nat) (hb : b < 2 ^ k) : b + 2 ^ k * y = b ^^^ (2 ^ k * y) := by
  have h := split_xor (b + 2 ^ k * y) k
  rw [Nat.add_mul_mod_self_left, Nat.mod_eq_of_lt hb, Nat.add_mul_div_left _ _ (Nat.two_pow_pos k), Nat.div_eq_of_lt hb, Nat.zero_add] at h
  exact h
theorem run_eq (bs : List Nat) : ∀ x, (∀ b ∈ bs, b < 256) → run x bs = stn (8 * bs.length) (x ^^^ val bs) := by
  induction bs with
  | nil => intro x _; simp [run, val, stn]
  | cons b bs ih =>
    intro x hb
    have h1 : run x (b :: bs) = run (upd x b) bs := rfl
    have h2 : val (b :: bs) = b ^^^ (256 * val bs) := add_xor b (val bs) 8 (hb b (by simp))
    have h3 : 8 * (b :: bs).length = 8 + 8 * bs.length := by simp; omega
    rw [h1, ih _ (fun c hc => hb c (by simp [hc])), h2, h3, stn_add, ← Nat.xor_assoc, stn_xor 8, ← upd_eq]
    have p : stn 8 (256 * val bs) = val bs := stn_pow 8 _
    rw [p]
theorem run_append (x : Nat) (a b : List Nat) : run x (a ++ b) = run (run x a) b := by unfold run; exact List.foldl_append
theorem st_lt {x : Nat} (h : x < 4294967296) : st x < 4294967296 := by
  unfold st
  have hp : x % 2 * 3988292384 < 2 ^ 32 := by omega
  exact Nat.xor_lt_two_pow (n := 32) (by omega) hp
theorem stn_lt (n : Nat) : ∀ {x : Nat}, x < 4294967296 → stn n x < 4294967296 := by
  induction n with
  | zero => intro x h; exact h
  | succ n ih => intro x h; exact ih (st_lt h)
theorem upd_lt {x c : Nat} (h : x < 4294967296) (hc : c < 256) : upd x c < 4294967296 := by
  rw [upd_eq]
  exact stn_lt 8 (Nat.xor_lt_two_pow (n := 32) h (by omega))
theorem run_lt (bs : List Nat) : ∀ {x : Nat}, x < 4294967296 → (∀ b ∈ bs, b < 256) → run x bs < 4294967296 := by
  induction bs with
  | nil => intro x h _; exact h
  | cons b bs ih => intro x h hb; exact ih (upd_lt h (hb b (by simp))) (fun c hc => hb c (by simp [hc]))
theorem add_lt (s : Nat) (bs : List Nat) : add s bs < 4294967296 := by unfold add; omega
theorem not_not {x : Nat} (h : x < 4294967296) : 4294967295 - (4294967295 - x) = x := by omega
theorem not_xor {x : Nat} (h : x < 4294967296) : 4294967295 - x = x ^^^ 4294967295 := by
  have e1 : 4294967295 - x = 2 ^ 32 - (x + 1) := by omega
  have e2 : (4294967295 : Nat) = 2 ^ 32 - 1 := by omega
  rw [e1, e2]
  apply Nat.eq_of_testBit_eq
  intro i
  rw [Nat.testBit_two_pow_sub_succ (by omega), Nat.testBit_xor, Nat.testBit_two_pow_sub_one]
  by_cases hi : i < 32
  · simp [hi]
  · have : x.testBit i = false := Nat.testBit_lt_two_pow (Nat.lt_of_lt_of_le (show x < 2 ^ 32 by omega) (Nat.pow_le_pow_right (by omega) (by omega)))
    simp [hi, this]
theorem add_eq (s : Nat) (bs : List Nat) (hs : s < 4294967296) (hb : ∀ b ∈ bs, b < 256) : add s bs = run (s ^^^ 4294967295) bs ^^^ 4294967295 := by
  unfold add
  rw [not_xor hs, not_xor (run_lt bs (Nat.xor_lt_two_pow (n := 32) hs (by omega)) hb)]

/-! joins -/
theorem add_append (s : Nat) (a b : List Nat) (hs : s < 4294967296) (ha : ∀ x ∈ a, x < 256) : add s (a ++ b) = add (add s a) b := by
  unfold add
  rw [run_append, not_not (run_lt a (x := 4294967295 - s) (by omega) ha)]
theorem add_nil (s : Nat) (hs : s < 4294967296) : add s [] = s := by simp only [add, run, List.foldl_nil]; omega

/-! linear -/
theorem xor_self_mid (a b c : Nat) : (a ^^^ b) ^^^ (a ^^^ c) = b ^^^ c := by
  rw [xor_swap, Nat.xor_self, Nat.zero_xor]
theorem add_diff (s : Nat) (a b : List Nat) (hs : s < 4294967296) (ha : ∀ x ∈ a, x < 256) (hb : ∀ x ∈ b, x < 256) (hl : b.length = a.length) :
    add s a ^^^ add s b = stn (8 * a.length) (val a ^^^ val b) := by
  rw [add_eq s a hs ha, add_eq s b hs hb, run_eq a _ ha, run_eq b _ hb, hl, xor_swap, Nat.xor_self, Nat.xor_zero, ← stn_xor, xor_self_mid]
/-- Of lists of one length: bit by bit turned. -/
def xors : List Nat → List Nat → List Nat
  | a :: as, b :: bs => (a ^^^ b) :: xors as bs
  | _, _ => []
theorem xors_length : ∀ a b : List Nat, b.length = a.length → (xors a b).length = a.length
  | [], [], _ => rfl
  | a :: as, b :: bs, h => by simp only [xors, List.length_cons]; rw [xors_length as bs (by simpa using h)]
  | [], _ :: _, h => by simp at h
  | _ :: _, [], h => by simp at h
theorem xors_lt : ∀ a b : List Nat, (∀ x ∈ a, x < 256) → (∀ x ∈ b, x < 256) → ∀ x ∈ xors a b, x < 256
  | [], _, _, _ => by simp [xors]
  | _ :: _, [], _, _ => by simp [xors]
  | a :: as, b :: bs, ha, hb => by
    intro x hx
    simp only [xors, List.mem_cons] at hx
    rcases hx with rfl | hx
    · exact Nat.xor_lt_two_pow (n := 8) (ha a (by simp)) (hb b (by simp))
    · exact xors_lt as bs (fun y hy => ha y (by simp [hy])) (fun y hy => hb y (by simp [hy])) x hx
theorem val_xors : ∀ a b : List Nat, b.length = a.length → (∀ x ∈ a, x < 256) → (∀ x ∈ b, x < 256) → val (xors a b) = val a ^^^ val b
  | [], [], _, _, _ => by simp [xors, val]
  | a :: as, b :: bs, h, ha, hb => by
    have h1 : a < 2 ^ 8 := ha a (by simp)
    have h2 : b < 2 ^ 8 := hb b (by simp)
    have ih := val_xors as bs (by simpa using h) (fun y hy => ha y (by simp [hy])) (fun y hy => hb y (by simp [hy]))
    have e1 : val (xors (a :: as) (b :: bs)) = (a ^^^ b) + 2 ^ 8 * (val as ^^^ val bs) := by simp only [xors, val]; rw [ih]
    have e2 : val (a :: as) = a ^^^ (2 ^ 8 * val as) := add_xor a (val as) 8 h1
    have e3 : val (b :: bs) = b ^^^ (2 ^ 8 * val bs) := add_xor b (val bs) 8 h2
    rw [e1, e2, e3, add_xor _ _ 8 (Nat.xor_lt_two_pow h1 h2), xor_swap]
    congr 1
    apply Nat.eq_of_testBit_eq
    intro i
    simp only [Nat.testBit_xor, Nat.testBit_two_pow_mul]
    by_cases hi : i ≥ 8 <;> simp [hi]
  | [], _ :: _, h, _, _ => by simp at h
  | _ :: _, [], h, _, _ => by simp at h
theorem linear (s : Nat) (a b y : List Nat) (hs : s < 4294967296) (ha : ∀ x ∈ a, x < 256) (hb : ∀ x ∈ b, x < 256) (hy : ∀ x ∈ y, x < 256)
    (hl : b.length = a.length) (hm : y.length = a.length) : add s a ^^^ add s (xors a y) = add s b ^^^ add s (xors b y) := by
  rw [add_diff s a _ hs ha (xors_lt a y ha hy) (xors_length a y hm), add_diff s b _ hs hb (xors_lt b y hb hy) (xors_length b y (by omega)),
    val_xors a y hm ha hy, val_xors b y (by omega) hb hy, hl, ← Nat.xor_assoc, Nat.xor_self, ← Nat.xor_assoc, Nat.xor_self]

/-! bursts -/
theorem st_inj0 {x : Nat} (h : x < 4294967296) (h0 : st x = 0) : x = 0 := by
  unfold st at h0
  have e : x / 2 = x % 2 * 3988292384 := by
    have := congrArg (fun z => z ^^^ (x % 2 * 3988292384)) h0
    simp only [Nat.xor_assoc, Nat.xor_self, Nat.xor_zero, Nat.zero_xor] at this
    exact this
  omega
theorem stn_inj0 (n : Nat) : ∀ {x : Nat}, x < 4294967296 → stn n x = 0 → x = 0 := by
  induction n with
  | zero => intro x _ h; exact h
  | succ n ih => intro x h h0; exact st_inj0 h (ih (st_lt h) h0)
theorem xor_eq_zero {a b : Nat} (h : a ^^^ b = 0) : a = b := by
  have := congrArg (fun z => z ^^^ b) h
  simp only [Nat.xor_assoc, Nat.xor_self, Nat.xor_zero, Nat.zero_xor] at this
  exact this
/-- c is b, D turned from bit k on. -/
theorem burst (s : Nat) (b c : List Nat) (k D : Nat) (hs : s < 4294967296) (hb : ∀ x ∈ b, x < 256) (hc : ∀ x ∈ c, x < 256) (hl : c.length = b.length)
    (hk : k ≤ 8 * b.length) (hD : D < 4294967296) (hv : val b ^^^ val c = 2 ^ k * D) : add s b = add s c ↔ D = 0 := by
  have h := add_diff s b c hs hb hc hl
  rw [hv, show 8 * b.length = k + (8 * b.length - k) by omega, stn_add, stn_pow] at h
  constructor
  · intro e
    rw [e, Nat.xor_self] at h
    exact stn_inj0 _ hD h.symm
  · intro e
    rw [e, stn_zero] at h
    exact xor_eq_zero h

/-! four bytes make any sum -/
/-- A bit is put back. -/
def bk (x : Nat) : Nat := if x / 2147483648 = 1 then 2 * (x ^^^ 3988292384) % 4294967296 + 1 else 2 * x
theorem bk_lt {x : Nat} (h : x < 4294967296) : bk x < 4294967296 := by
  unfold bk; split <;> omega
theorem st_bk {x : Nat} (h : x < 4294967296) : st (bk x) = x := by
  unfold bk
  split
  · rename_i h1
    have ht : (x ^^^ 3988292384) < 2147483648 := by
      have e1 : x = 2 ^ 31 + (x - 2147483648) := by omega
      have e2 : (3988292384 : Nat) = 1840808736 + 2 ^ 31 * 1 := by omega
      have e3 : x = (x - 2147483648) + 2 ^ 31 * 1 := by omega
      rw [add_xor _ 1 31 (by omega)] at e2
      rw [add_xor _ 1 31 (by omega)] at e3
      rw [e3, e2, xor_swap, Nat.xor_self, Nat.xor_zero]
      exact Nat.xor_lt_two_pow (n := 31) (by omega) (by omega)
    unfold st
    have e1 : (2 * (x ^^^ 3988292384) % 4294967296 + 1) / 2 = x ^^^ 3988292384 := by omega
    have e2 : (2 * (x ^^^ 3988292384) % 4294967296 + 1) % 2 = 1 := by omega
    rw [e1, e2, Nat.one_mul, Nat.xor_assoc, Nat.xor_self, Nat.xor_zero]
  · exact st_two x
def bkn : Nat → Nat → Nat
  | 0, x => x
  | n + 1, x => bk (bkn n x)
theorem bkn_lt (n : Nat) {x : Nat} (h : x < 4294967296) : bkn n x < 4294967296 := by
  induction n with
  | zero => exact h
  | succ n ih => exact bk_lt ih
theorem stn_bkn (n : Nat) {x : Nat} (h : x < 4294967296) : stn n (bkn n x) = x := by
  induction n with
  | zero => rfl
  | succ n ih => simp only [bkn, stn]; rw [st_bk (bkn_lt n h)]; exact ih
theorem val_four (X : Nat) (h : X < 4294967296) : val [X % 256, X / 256 % 256, X / 65536 % 256, X / 16777216 % 256] = X := by
  simp only [val]; omega
theorem sets (sum want : Nat) (hs : sum < 4294967296) (hw : want < 4294967296) (X : Nat) (hX : X = bkn 32 (4294967295 - want) ^^^ (4294967295 - sum)) :
    add sum [X % 256, X / 256 % 256, X / 65536 % 256, X / 16777216 % 256] = want := by
  have hlt : X < 4294967296 := by
    rw [hX]; exact Nat.xor_lt_two_pow (n := 32) (bkn_lt 32 (by omega)) (by omega)
  have hb : ∀ b ∈ [X % 256, X / 256 % 256, X / 65536 % 256, X / 16777216 % 256], b < 256 := by
    intro b hb
    simp only [List.mem_cons, List.not_mem_nil, or_false] at hb
    omega
  unfold add
  rw [run_eq _ _ hb, val_four X hlt]
  have e : (4294967295 - sum) ^^^ X = bkn 32 (4294967295 - want) := by
    rw [hX, Nat.xor_comm, Nat.xor_assoc, Nat.xor_self, Nat.xor_zero]
  rw [e]
  have e2 : stn (8 * [X % 256, X / 256 % 256, X / 65536 % 256, X / 16777216 % 256].length) (bkn 32 (4294967295 - want)) = 4294967295 - want := stn_bkn 32 (by omega)
  rw [e2]
  omega

/-! the document's way: a bit of the bytes at a time -/
def sb (x b : Nat) : Nat := if x % 2 = b then x / 2 else (x / 2) ^^^ 3988292384
theorem sb_eq (x b : Nat) (hb : b < 2) : sb x b = st (x ^^^ b) := by
  unfold sb st
  rw [xor_half, xor_low]
  have hx : x % 2 = 0 ∨ x % 2 = 1 := by omega
  have hb' : b = 0 ∨ b = 1 := by omega
  rcases hx with h | h <;> rcases hb' with k | k <;> subst k <;> rw [h] <;> simp
/-- k bits of c have been taken. -/
def sbn : Nat → Nat → Nat → Nat
  | 0, x, _ => x
  | k + 1, x, c => sb (sbn k x c) (c / 2 ^ k % 2)
theorem sbn_eq (k : Nat) (x c : Nat) : stn k (x ^^^ c) = sbn k x c ^^^ (c / 2 ^ k) := by
  induction k with
  | zero => simp [stn, sbn]
  | succ k ih =>
    have e : stn (k + 1) (x ^^^ c) = st (stn k (x ^^^ c)) := stn_add k 1 _
    rw [e, ih, sbn, sb_eq _ _ (Nat.mod_lt _ (by omega)), st_xor, st_xor, Nat.xor_assoc]
    congr 1
    have h2 := split_xor (c / 2 ^ k) 1
    have h3 : st (c / 2 ^ k) = st (c / 2 ^ k % 2) ^^^ (c / 2 ^ k / 2) := by
      have := congrArg st h2
      rw [st_xor] at this
      simp only [Nat.pow_one] at this
      rw [st_two] at this
      exact this
    rw [h3, Nat.pow_succ, Nat.div_div_eq_div_mul]
theorem sbn_upd (x c : Nat) (hc : c < 256) : sbn 8 x c = upd x c := by
  have h := sbn_eq 8 x c
  rw [upd_eq, h, Nat.div_eq_of_lt (show c < 2 ^ 8 by omega), Nat.xor_zero]
theorem sb_lt {x b : Nat} (h : x < 4294967296) : sb x b < 4294967296 := by
  unfold sb
  split
  · omega
  · exact Nat.xor_lt_two_pow (n := 32) (by omega) (by omega)
theorem sbn_lt (k : Nat) {x c : Nat} (h : x < 4294967296) : sbn k x c < 4294967296 := by
  induction k with
  | zero => exact h
  | succ k ih => exact sb_lt ih
theorem nine : add 0 [49, 50, 51, 52, 53, 54, 55, 56, 57] = 3421780262 := by decide +kernel
end Go.Proofs.Ytdgomddbppgkmaa.CrcM
