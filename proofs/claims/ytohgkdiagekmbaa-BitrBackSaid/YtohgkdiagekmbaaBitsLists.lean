/- Proved here: what the reference's functions on lists of bits do (package puncheonref01). Conditions: each theorem's own. -/
import Derived.Test.YtohgkdiagekmbaaBitwLaws
namespace Go.Proofs.Ytohgkdiagekmbaa.Bitw
open Go.RowKit Go.Proofs.YtohgkdiagekmbaaW.PrintWords Go.Proofs.Ytohgkdiagekmbaa.CrcM Go.Proofs.Ytohgkdiagekmbaa.BitsM Go.Proofs.Ytohgkdiagekmbaa.Base

/-! plain: bits as a number -/
def numL : List Bool → Nat
  | [] => 0
  | b :: l => b.toNat + 2 * numL l
theorem numL_append : ∀ a b : List Bool, numL (a ++ b) = numL a + 2 ^ a.length * numL b
  | [], b => by simp [numL]
  | x :: a, b => by
    simp only [List.cons_append, numL, List.length_cons]
    rw [numL_append a b, Nat.mul_add, Nat.pow_succ, Nat.mul_comm (2 ^ a.length) 2, Nat.mul_assoc]
    omega
theorem numL_lt : ∀ a : List Bool, numL a < 2 ^ a.length
  | [] => by simp [numL]
  | x :: a => by
    have := numL_lt a
    have hx : x.toNat ≤ 1 := by cases x <;> simp
    simp only [numL, List.length_cons, Nat.pow_succ]
    omega
def tb (x i : Nat) : Bool := x / 2 ^ i % 2 == 1
def bitsOf (x : Nat) : Nat → List Bool
  | 0 => []
  | n + 1 => bitsOf x n ++ [tb x n]
theorem bitsOf_length (x n : Nat) : (bitsOf x n).length = n := by
  induction n with
  | zero => rfl
  | succ n ih => simp [bitsOf, ih]
theorem tb_toNat (x n : Nat) : (tb x n).toNat = x / 2 ^ n % 2 := by
  unfold tb
  rcases (show x / 2 ^ n % 2 = 0 ∨ x / 2 ^ n % 2 = 1 by omega) with h | h <;> rw [h] <;> rfl
theorem numL_bitsOf (x n : Nat) : numL (bitsOf x n) = x % 2 ^ n := by
  induction n with
  | zero => simp [bitsOf, numL, Nat.mod_one]
  | succ n ih =>
    rw [bitsOf, numL_append, ih, bitsOf_length, bit_mod]
    simp [numL, tb_toNat]
theorem numL_take (l : List Bool) (i : Nat) (hi : i < l.length) : numL (l.take (i + 1)) = numL (l.take i) + 2 ^ i * (l.getD i false).toNat := by
  rw [List.take_succ_eq_append_getElem hi, numL_append, List.getD_eq_getElem?_getD, List.getElem?_eq_getElem hi, List.length_take, Nat.min_eq_left (by omega)]
  simp [numL]

theorem tb_walk (x k : Nat) : (((x / 2 ^ k : Nat) : Int) % 2 == 1) = tb x k := by
  unfold tb
  rcases (show x / 2 ^ k % 2 = 0 ∨ x / 2 ^ k % 2 = 1 by omega) with h | h
  · rw [h, beq_eq_false_iff_ne.2 (by omega)]; rfl
  · rw [h, beq_iff_eq.2 (by omega)]; rfl
/-! lists of bits in memory -/
theorem info_bool : (Try.prog.info? 4).map (fun i => (i.zero, i.size, i.bytes)) = some (some (.bool false), 1, 1) := by kernel_rfl
def RL (w : World) (A : Option Addr) (l : List Bool) : Prop := ReadsOf Value.bool false w A l.length l
def OL (w : World) (base : Nat) (v : Value) (l : List Bool) : Prop := w.ownsRow base 4 1 v l.length (encs Value.bool l)
theorem OL.reads {w : World} {base : Nat} {v : Value} {l : List Bool} (h : OL w base v l) : ∃ A c, v = .slice A l.length c ∧ RL w A l := own_reads_of h
theorem OL.lit (w : World) (base : Nat) (l : List Bool) (hb : base ≤ w.heap.size) (hl : l.length ≤ 1000000) : OL (w.alloc (.cells (encs Value.bool l).toArray 4)) base (.slice (some ⟨w.heap.size, 0, none⟩) l.length l.length) l := own_lit_of w base 4 l hb (by omega)
theorem OL.nil (w : World) (base : Nat) : OL w base (.slice none 0 0) [] := own_nil _ _ _ _
theorem OL.keep {w w1 : World} {base : Nat} {v : Value} {l : List Bool} {S : Nat → Prop} (h : OL w base v l) (hk : Keep S w w1) (hne : ∀ k, v.ownBlock = some k → ¬ S k) : OL w1 base v l := by
  refine ⟨h.1, ?_⟩
  rcases h.2 with hn | ⟨g, cap, cur, rfl, hb, hgg, rest⟩
  · exact .inl hn
  · refine .inr ⟨g, cap, cur, rfl, hb, ?_, rest⟩
    rw [hk.block g (Array.getElem?_eq_some_iff.1 hgg).1 (hne g rfl)]
    exact hgg
theorem OL.below {w w1 : World} {base : Nat} {v : Value} {l : List Bool} (h : OL w base v l) (hb : Below w.heap.size w w1) : OL w1 base v l := pw_own_below h hb
theorem OL.lower {w : World} {base B : Nat} {v : Value} {l : List Bool} (h : OL w base v l) (hB : B ≤ base) : OL w B v l := own_less h hB
theorem OL.base {w : World} {base : Nat} {v : Value} {l : List Bool} (h : OL w base v l) : ∀ k, v.ownBlock = some k → base ≤ k := own_base h
theorem OL.lt {w : World} {base : Nat} {v : Value} {l : List Bool} (h : OL w base v l) : ∀ k, v.ownBlock = some k → k < w.heap.size := own_lt h
theorem RL.below {w w1 : World} {A : Option Addr} {l : List Bool} (h : RL w A l) (hb : Below w.heap.size w w1) : RL w1 A l := ReadsOf.below h hb
theorem RL.at_ {w : World} {A : Option Addr} {l : List Bool} (h : RL w A l) (k : Nat) (hk : k < l.length) : ∃ ad, A = some ad ∧ w.cell? (ad.add k) = some (.bool (l.getD k false)) := by
  obtain ⟨ad, e, hc⟩ := ReadsOf.at_ h (k : Int) (by omega) (by omega)
  rw [Int.toNat_natCast] at hc
  exact ⟨ad, e, by rw [hc]; simp [rdOf]⟩

set_option maxRecDepth 100000 in
set_option maxHeartbeats 400000 in
theorem refput_any (w : World) (A : Option Addr) (c x n : Nat) (l : List Bool) (hr : RL w A l) (hl : l.length ≤ 100000) (hx : x < 4294967296) (hn : n ≤ 24) :
    Calls Try.prog 22 #[.slice A l.length c, .int .u32 (x : Int), .int .i64 (n : Int)] w fun e w' => ∃ r, e = .returned r ∧ OL w' w.heap.size r (l ++ bitsOf x n) ∧ Below w.heap.size w w' := by
  have HR := Aside0.mk hr
  clear hr
  go_enter Try.func22, Try.ntmps22
  go_wp2_with (at_builtin; refine print_append_row_of (w0 := w) Value.bool false w.heap.size rfl (.tmp 9) (.tmp 10) 29 4 (.bool false) 1 rfl Try.underlying29 info_bool rfl (by decide) (fun _ => rfl) _ [] l A l.length c rfl rfl (OL.lit w _ [] (Nat.le_refl _) (by simp)) (HR.out.below (below_alloc (Below.refl _ _) _)) (below_alloc (Below.refl _ _) _) (by simp) (by simp; omega) ?_; intro v1 w1 hown1 hbel1 hgr1 hat1; rw [List.nil_append] at hown1)
  have H1 := Aside0.mk (show OL w1 w.heap.size v1 l from hown1)
  clear hown1 hgr1 hat1
  go_loopw [1, 7, 8] (fun xv v i wr => ∃ k : Nat, k ≤ n ∧ i = .int .i64 k ∧ xv = .int .u32 ((x / 2 ^ k : Nat) : Int) ∧ Aside0 (OL wr w.heap.size v (l ++ bitsOf x k)) ∧ Below w.heap.size w wr) (fun _ _ i _ => n - (intOf i).toNat)
  case atStart => exact ⟨0, by omega, rfl, by simp, by simpa [bitsOf] using H1, hbel1⟩
  case round =>
    obtain ⟨k, hk, rfl, rfl, HO, hbr⟩ := hrel
    by_cases hlt : k < n
    · have hX : x / 2 ^ k < 4294967296 := Nat.lt_of_le_of_lt (Nat.div_le_self _ _) hx
      have HN := Aside0.mk (show x / 2 ^ (k + 1) = x / 2 ^ k / 2 by rw [Nat.pow_succ, Nat.div_div_eq_div_mul])
      have hbit := tb_walk x k
      have hbl : (l ++ bitsOf x k).length ≤ 100100 := by rw [List.length_append, bitsOf_length]; omega
      have HB := Aside0.mk (show l ++ bitsOf x (k + 1) = (l ++ bitsOf x k) ++ [tb x k] by rw [bitsOf, List.append_assoc])
      generalize x / 2 ^ k = X at *
      generalize l ++ bitsOf x k = cs at *
      go_wp2_with (at_builtin; refine print_append_of (w0 := wr) Value.bool w.heap.size rfl (.tmp 17) (.tmp 21) 29 4 (.bool false) 1 rfl Try.underlying29 info_bool rfl (by decide) u7 cs (tb x k) rfl rfl rfl HO.out (Below.refl _ _) hbr.size (by omega) ?_; intro v1 w2 hown2 hbel2 hgr2 hat2)
      have R1 := Aside0.mk (show OL w2 w.heap.size v1 (l ++ bitsOf x (k + 1)) by rw [HB.out]; exact hown2)
      have hbr2 := hbr.trans hbel2
      clear hown2 hgr2 hat2 hbel2 HO hbit
      go_wp2_with fail
      go_roundw
      case rel => exact ⟨k + 1, by omega, by go_num, by rw [HN.out]; go_num, R1, hbr2⟩
      case measure => simp [intOf]; omega
    · obtain rfl : k = n := by omega
      go_wp2_with fail
      go_ret
      exact ⟨u7, rfl, HO.out, hbr⟩

theorem val_replicate (n : Nat) : val (List.replicate n 0) = 0 := by
  induction n with
  | zero => rfl
  | succ n ih => rw [List.replicate_succ]; simp only [CrcM.val]; rw [ih]
theorem add_bit (c r : Nat) (hc : c < 2 ^ r) (hr : r < 8) : c + 2 ^ r < 256 := by
  have : 2 ^ (r + 1) ≤ 2 ^ 8 := Nat.pow_le_pow_right (by omega) (by omega)
  rw [Nat.pow_succ] at this
  omega
theorem add_bit_walk (c r : Nat) (hc : c < 2 ^ r) (hr : r < 8) : ((c : Int) + 2 ^ r) % 256 = ((c + 2 ^ r : Nat) : Int) := by
  have h := add_bit c r hc hr
  have e : ((2 : Int) ^ r) = ((2 ^ r : Nat) : Int) := by simp
  rw [e]
  generalize 2 ^ r = P at *
  omega
set_option maxRecDepth 100000 in
set_option maxHeartbeats 400000 in
theorem refbytes_any (w : World) (A : Option Addr) (c : Nat) (l : List Bool) (hr : RL w A l) (hl : l.length ≤ 100000) :
    Calls Try.prog 26 #[.slice A l.length c] w fun e w' => ∃ r bs, e = .returned r ∧ OB w' w.heap.size 5 r bs ∧ bs.length = (l.length + 7) / 8 ∧ val bs = numL l ∧ Below w.heap.size w w' := by
  have HR := Aside0.mk hr
  clear hr
  have hmk := print_make (P := Try.prog) 22 5 .u8 1 Try.underlying22 info_u8 (by decide) ((l.length + 7) / 8) (by omega)
  have hq : ((l.length : Int) + 7) / 8 = (((l.length + 7) / 8 : Nat) : Int) := by omega
  have HQ : (l.length + 7) / 8 ≤ 100000 := by omega
  have HQ7 := Aside0.mk (show l.length ≤ 8 * ((l.length + 7) / 8) by omega)
  obtain ⟨n, hn⟩ : ∃ n, n = (l.length + 7) / 8 := ⟨_, rfl⟩
  rw [← hn] at hmk hq HQ HQ7 ⊢
  clear hn
  go_enter Try.func26, Try.ntmps26
  go_wp2_with fail
  have H0 := Aside0.mk (show OB (w.alloc (.cells (madeCells #[.int .u8 0] n) 5)) w.heap.size 5 (.slice (some ⟨w.heap.size, 0, none⟩) n n) (List.replicate n 0) from
    ⟨by intro b hb; have := List.eq_of_mem_replicate hb; omega, by
      have h := own_made w w.heap.size 5 .u8 n (Nat.le_refl _) (by omega)
      rw [List.length_replicate]
      have e : nb (List.replicate n 0) = nums .u8 (List.replicate n 0) := by simp [nb, nums]
      rw [e]; exact h⟩)
  clear hmk hq
  go_loopw [4] (fun i wr => ∃ (k : Nat) (bs : List Nat), k ≤ l.length ∧ i = .int .i64 k ∧ Aside0 (OB wr w.heap.size 5 (.slice (some ⟨w.heap.size, 0, none⟩) n n) bs) ∧ Aside0 (bs.length = n) ∧ Aside0 (val bs = numL (l.take k)) ∧ Below w.heap.size w wr) (fun i _ => l.length - (intOf i).toNat)
  case atStart => exact ⟨0, List.replicate n 0, by omega, rfl, H0, ⟨by simp⟩, ⟨by rw [val_replicate]; rfl⟩, below_alloc (Below.refl _ _) _⟩
  case round =>
    obtain ⟨k, bs, hk, rfl, HO, HL, HV, hbr⟩ := hrel
    by_cases hlt : k < l.length
    · obtain ⟨ad, rfl, hc⟩ := (HR.out.below hbr).at_ k hlt
      have HT := Aside0.mk (numL_take l k hlt)
      have hq : k / 8 < n := by have := HQ7.out; omega
      have hvl : val bs < 2 ^ k := by
        have h1 := numL_lt (l.take k)
        rw [List.length_take, Nat.min_eq_left (by omega)] at h1
        rw [HV.out]; exact h1
      have hcl := last_lt bs k HO.out.1 hvl
      rcases hb : l.getD k false with _ | _
      · rw [hb] at hc HT
        clear hb
        have R3 := Aside0.mk (show val bs = numL (l.take (k + 1)) by rw [HT.out, HV.out]; simp)
        go_wp2_with fail
        go_roundw
        case rel => exact ⟨k + 1, bs, by omega, by go_num, HO, HL, R3, hbr⟩
        case measure => simp [intOf]; omega
      · rw [hb] at hc HT
        clear hb
        obtain ⟨hx1, hx2⟩ := HO.out.at' HL.out (k / 8) hq
        have hab := add_bit _ _ hcl (show k % 8 < 8 by omega)
        have HAB := Aside0.mk (add_bit_walk _ _ hcl (show k % 8 < 8 by omega))
        have P1 := HO.out.store' HL.out (k / 8) _ hab
        have R1 := Aside0.mk P1.1.drew
        have R2 := Aside0.mk (show (bs.set (k / 8) (bs.getD (k / 8) 0 + 2 ^ (k % 8))).length = n by rw [List.length_set]; exact HL.out)
        have R3 := Aside0.mk (show val (bs.set (k / 8) (bs.getD (k / 8) 0 + 2 ^ (k % 8))) = numL (l.take (k + 1)) by
          have hs := val_set bs (k / 8) (bs.getD (k / 8) 0 + 2 ^ (k % 8)) (by rw [HL.out]; exact hq)
          rw [Nat.mul_add, ← Nat.pow_add, show 8 * (k / 8) + k % 8 = k by omega] at hs
          rw [HT.out, ← HV.out]
          simp only [Bool.toNat_true, Nat.mul_one]
          omega)
        have R4 := Aside0.mk (below_drew (hbr.setCell (p := ⟨w.heap.size, k / 8, none⟩) (Nat.le_refl _) (.int .u8 ((bs.getD (k / 8) 0 + 2 ^ (k % 8) : Nat) : Int))))
        clear P1 hab HO
        obtain ⟨y, hy⟩ : ∃ y, y = bs.getD (k / 8) 0 + 2 ^ (k % 8) := ⟨_, rfl⟩
        rw [← hy] at R1 R2 R3 R4 HAB
        clear hy
        go_wp2_with fail
        go_region
        rw [← List.getD_eq_getElem?_getD, HAB.out]
        clear hx1 hx2 HAB
        go_wp2_with fail
        go_roundw
        case rel => exact ⟨k + 1, _, by omega, by go_num, R1, R2, R3, R4.out⟩
        case measure => simp [intOf]; omega
    · obtain rfl : k = l.length := by omega
      rw [List.take_length] at HV
      go_wp2_with fail
      go_ret
      exact ⟨_, bs, rfl, HO.out, HL.out, HV.out, hbr⟩

set_option maxRecDepth 100000 in
set_option maxHeartbeats 400000 in
theorem refclose_any (w : World) (A : Option Addr) (c : Nat) (l : List Bool) (hr : RL w A l) (hl : l.length ≤ 50000) :
    Calls Try.prog 28 #[.slice A l.length c] w fun e w' => ∃ r bs, e = .returned r ∧ OB w' w.heap.size 5 r bs ∧ bs.length = l.length / 8 + 1 ∧ val bs = numL l + 2 ^ l.length ∧ Below w.heap.size w w' := by
  have HR := Aside0.mk hr
  clear hr
  go_enter Try.func28, Try.ntmps28
  go_wp2_with (first
    | (at_builtin; refine print_append_row_of (w0 := w) Value.bool false w.heap.size rfl (.tmp 3) (.tmp 4) 29 4 (.bool false) 1 rfl Try.underlying29 info_bool rfl (by decide) (fun _ => rfl) _ [] l A l.length c rfl rfl (OL.lit w _ [] (Nat.le_refl _) (by simp)) (HR.out.below (below_alloc (Below.refl _ _) _)) (below_alloc (Below.refl _ _) _) (by simp) (by simp; omega) ?_; intro v1 w1 hown1 hbel1 hgr1 hat1; rw [List.nil_append] at hown1)
    | (at_builtin; refine print_append_of (w0 := w) Value.bool w.heap.size rfl (.tmp 5) (.tmp 6) 29 4 (.bool false) 1 rfl Try.underlying29 info_bool rfl (by decide) v1 l true rfl rfl rfl hown1 hbel1 hbel1.size (by omega) ?_; intro v2 w2 hown2 hbel2 hgr2 hat2)
    | fail)
  obtain ⟨A2, c2, rfl, q2⟩ := OL.reads (show OL w2 w.heap.size v2 (l ++ [true]) from hown2)
  have Q2 := Aside0.mk q2
  clear hown1 hown2 q2 hgr1 hgr2 hat1 hat2 hbel1
  refine (refbytes_any w2 A2 c2 (l ++ [true]) Q2.out (by simp; omega)).mono ?_
  rintro e w3 ⟨r, bs, rfl, ho, hl3, hv3, hb3⟩
  have O := Aside0.mk (ho.lower hbel2.size)
  have L := Aside0.mk (show bs.length = l.length / 8 + 1 by rw [hl3]; simp; omega)
  have V := Aside0.mk (show val bs = numL l + 2 ^ l.length by rw [hv3, numL_append]; simp [numL])
  have hb3' := below_then hbel2 hbel2.size hb3
  clear ho hl3 hv3 hb3 Q2
  go_wp2_with fail
  go_ret
  exact ⟨r, bs, rfl, O.out, L.out, V.out, hb3'⟩
end Go.Proofs.Ytohgkdiagekmbaa.Bitw
