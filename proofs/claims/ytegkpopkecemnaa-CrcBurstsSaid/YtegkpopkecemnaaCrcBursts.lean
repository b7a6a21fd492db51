/- Proved here: the law CrcBursts returns true for every input and changes nothing that was there. Conditions: none. -/
import Derived.Test.YtegkpopkecemnaaCrcWalks
import Derived.BigRegion
import Derived.WalkLawsBesides
namespace Go.Proofs.Ytegkpopkecemnaa.Crc
open Go.RowKit Go.Proofs.YtegkpopkecemnaaW.PrintWords Go.Proofs.Ytegkpopkecemnaa.CrcM Go.Proofs.Ytegkpopkecemnaa.Base

theorem of_len (g c n : Nat) (A : Option Addr) (bs : List Nat) (w : World) (hg : Tab w g) (hr : RB w A bs) (hl : bs.length = n) (hn : n ≤ 300) :
    Calls Try.prog 11 #[.pointer (some ⟨g, 0, none⟩), .slice A n c] w fun e w' => e = .returned (.int .u32 (CrcM.add 0 bs : Nat)) ∧ w = w' := by
  subst hl
  exact of_any g c A bs w hg hr (by omega)
/-! plain: a byte is turned -/
theorem val_set : ∀ (c : List Nat) (q m : Nat), q < c.length → (∀ x ∈ c, x < 256) → m < 256 → val (c.set q (c.getD q 0 ^^^ m)) = val c ^^^ (2 ^ (8 * q) * m)
  | [], q, m, h, _, _ => by simp at h
  | x :: c, 0, m, _, hc, hm => by
    have hx : x < 2 ^ 8 := hc x (by simp)
    have e1 : val ((x :: c).set 0 ((x :: c).getD 0 0 ^^^ m)) = (x ^^^ m) + 2 ^ 8 * val c := by simp [val]
    have e2 : val (x :: c) = x ^^^ (2 ^ 8 * val c) := add_xor x (val c) 8 hx
    rw [e1, e2, add_xor _ _ 8 (Nat.xor_lt_two_pow hx (by omega)), Nat.mul_zero, Nat.pow_zero, Nat.one_mul, Nat.xor_assoc, Nat.xor_assoc, Nat.xor_comm m]
  | x :: c, q + 1, m, h, hc, hm => by
    have hx : x < 2 ^ 8 := hc x (by simp)
    have ih := val_set c q m (by simpa using h) (fun y hy => hc y (by simp [hy])) hm
    have e1 : val ((x :: c).set (q + 1) ((x :: c).getD (q + 1) 0 ^^^ m)) = x + 2 ^ 8 * val (c.set q (c.getD q 0 ^^^ m)) := by simp [val]
    have e2 : val (x :: c) = x ^^^ (2 ^ 8 * val c) := add_xor x (val c) 8 hx
    rw [e1, e2, ih, add_xor x _ 8 hx, Nat.xor_assoc]
    congr 1
    have e3 : 2 ^ (8 * (q + 1)) * m = 2 ^ 8 * (2 ^ (8 * q) * m) := by rw [Nat.mul_succ, Nat.add_comm, Nat.pow_add, Nat.mul_assoc]
    rw [e3]
    apply Nat.eq_of_testBit_eq
    intro i
    simp only [Nat.testBit_xor, Nat.testBit_two_pow_mul]
    by_cases hi : i ≥ 8 <;> simp [hi]
/-- Whether one of the first i bits is 1. -/
def some1 (by_ i : Nat) : Bool := by_ % 2 ^ i != 0
theorem bit_mod (x i : Nat) : x % 2 ^ (i + 1) = x % 2 ^ i + 2 ^ i * (x / 2 ^ i % 2) := by
  rw [Nat.pow_succ, Nat.mod_mul]
theorem some1_hit (x i : Nat) (h : x / 2 ^ i % 2 = 1) : some1 x (i + 1) = true := by
  unfold some1
  rw [bit_mod, h, bne_iff_ne]
  have := Nat.two_pow_pos i
  omega
theorem some1_miss (x i : Nat) (h : x / 2 ^ i % 2 = 0) : some1 x (i + 1) = some1 x i := by
  unfold some1
  rw [bit_mod, h, Nat.mul_zero, Nat.add_zero]
/-- After i bits. -/
def Turned (b c : List Nat) (k x i : Nat) : Prop := c.length = b.length ∧ (∀ y ∈ c, y < 256) ∧ val b ^^^ val c = 2 ^ k * (x % 2 ^ i)
theorem turned_zero (b : List Nat) (k x : Nat) (hb : ∀ y ∈ b, y < 256) : Turned b b k x 0 := ⟨rfl, hb, by simp [Nat.mod_one]⟩
theorem turned_miss {b c : List Nat} {k x i : Nat} (h : Turned b c k x i) (h0 : x / 2 ^ i % 2 = 0) : Turned b c k x (i + 1) :=
  ⟨h.1, h.2.1, by rw [bit_mod, h0, Nat.mul_zero, Nat.add_zero]; exact h.2.2⟩
theorem turned_hit {b c : List Nat} {k x i : Nat} (h : Turned b c k x i) (h1 : x / 2 ^ i % 2 = 1) (hk : k + i < 8 * b.length) :
    Turned b (c.set ((k + i) / 8) (c.getD ((k + i) / 8) 0 ^^^ 2 ^ ((k + i) % 8))) k x (i + 1) := by
  have hp : 2 ^ ((k + i) % 8) < 2 ^ 8 := Nat.pow_lt_pow_right (by omega) (Nat.mod_lt _ (by omega))
  have hc : (c.getD ((k + i) / 8) 0) < 256 := by
    have hq : (k + i) / 8 < c.length := by have := h.1; omega
    rw [List.getD_eq_getElem?_getD, List.getElem?_eq_getElem hq]
    exact h.2.1 _ (List.getElem_mem hq)
  refine ⟨by rw [List.length_set]; exact h.1, ?_, ?_⟩
  · intro y hy
    rcases List.mem_or_eq_of_mem_set hy with hy | rfl
    · exact h.2.1 y hy
    · exact Nat.xor_lt_two_pow (n := 8) hc hp
  · have e1 : x % 2 ^ i + 2 ^ i * 1 = x % 2 ^ i ^^^ 2 ^ i := by
      have := add_xor (x % 2 ^ i) 1 i (Nat.mod_lt _ (Nat.two_pow_pos i))
      rwa [Nat.mul_one] at this ⊢
    rw [val_set c _ _ (by have := h.1; omega) h.2.1 hp, ← Nat.xor_assoc, h.2.2, bit_mod, h1, e1, ← Nat.pow_add, show 8 * ((k + i) / 8) + (k + i) % 8 = i + k by omega]
    apply Nat.eq_of_testBit_eq
    intro j
    simp only [Nat.testBit_xor, Nat.testBit_two_pow_mul, Nat.testBit_two_pow]
    by_cases hj : j ≥ k
    · have e2 : decide (i + k = j) = decide (i = j - k) := decide_eq_decide.2 (by omega)
      simp [hj, e2]
    · have : ¬ i + k = j := by omega
      simp [hj, this]
theorem turned_end {b c : List Nat} {k x i : Nat} (h : Turned b c k x i) (hb : ∀ y ∈ b, y < 256) (hk : k ≤ 8 * b.length) (hi : i ≤ 32) : (CrcM.add 0 c != CrcM.add 0 b) = some1 x i := by
  have hD : x % 2 ^ i < 4294967296 := Nat.lt_of_lt_of_le (Nat.mod_lt _ (Nat.two_pow_pos i)) (Nat.le_trans (Nat.pow_le_pow_right (by omega) hi) (by decide))
  have e := burst 0 b c k _ (by omega) hb h.2.1 h.1 hk hD h.2.2
  unfold some1
  by_cases hz : x % 2 ^ i = 0
  · rw [bne_eq_false_iff_eq.2 (e.2 hz).symm, bne_eq_false_iff_eq.2 hz]
  · have : CrcM.add 0 c ≠ CrcM.add 0 b := fun he => hz (e.1 he.symm)
    rw [bne_iff_ne.2 this, bne_iff_ne.2 hz]

theorem pow_small (j : Nat) (h : 2 ^ j < 2 ^ 8) : ((2 : Int) ^ j % 256) = ((2 ^ j : Nat) : Int) := by
  have e : ((2 : Int) ^ j) = ((2 ^ j : Nat) : Int) := by simp
  rw [e]
  generalize 2 ^ j = P at *
  omega
theorem ne_int (a b : Nat) (r : Bool) (h : (a != b) = r) : ((a : Int) != (b : Int)) = r := by
  subst h
  by_cases e : a = b
  · rw [bne_eq_false_iff_eq.2 e, bne_eq_false_iff_eq.2 (by omega)]
  · rw [bne_iff_ne.2 e, bne_iff_ne.2 (by omega)]
set_option maxRecDepth 100000 in
set_option maxHeartbeats 400000 in
theorem bursts_off (c at_ x : Nat) (A : Option Addr) (n : Nat) (w : World) (hn : 300 < n ∨ n = 0) (hm : n ≤ 140737488351232) :
    Calls Try.prog 6 #[.slice A n c, .int .u16 (at_ : Int), .int .u32 (x : Int)] w fun e w' => e = .returned (.bool true) ∧ Below w.heap.size w w' := by
  rcases hn with h | rfl
  · go_enter Try.func6, Try.ntmps6
    go_wp2_with (go_at_call 9; refine (awake_any _).mono ?_; rintro e w1 ⟨rfl, hb1⟩)
    refine (new_any _).mono ?_
    rintro e w2 ⟨rfl, hb2, -⟩
    go_wp2_with fail
    go_ret
    exact ⟨rfl, below_then hb1 hb1.size hb2⟩
  · clear hm
    go_enter Try.func6, Try.ntmps6
    go_wp2_with (go_at_call 9; refine (awake_any _).mono ?_; rintro e w1 ⟨rfl, hb1⟩)
    refine (new_any _).mono ?_
    rintro e w2 ⟨rfl, hb2, -⟩
    go_wp2_with fail
    go_ret
    exact ⟨rfl, below_then hb1 hb1.size hb2⟩
set_option maxRecDepth 100000 in
set_option maxHeartbeats 400000 in
theorem bursts_on (c at_ x K : Nat) (A : Option Addr) (bs : List Nat) (w : World) (h16 : at_ < 65536) (hK : ((at_ : Int) % (8 * (bs.length : Int))) = (K : Int)) (hKl : K < 8 * bs.length) (h32 : x < 4294967296) (hr : RB w A bs) (hn : bs.length ≤ 300) (hp : 0 < bs.length) :
    Calls Try.prog 6 #[.slice A bs.length c, .int .u16 (at_ : Int), .int .u32 (x : Int)] w fun e w' => e = .returned (.bool true) ∧ Below w.heap.size w w' := by
  have HR := Aside0.mk hr
  clear hr
  have hl0 : ((bs.length : Int) == 0) = false := by rw [beq_eq_false_iff_ne]; omega
  go_enter Try.func6, Try.ntmps6
  go_wp2_with (go_at_call 9; refine (awake_any _).mono ?_; rintro e w1 ⟨rfl, hb1⟩)
  refine (new_any _).mono ?_
  rintro e w2 ⟨rfl, hb2, ht⟩
  have HT := Aside0.mk (show Tab w2 w1.heap.size from ht)
  clear ht
  have hbw := below_then hb1 hb1.size hb2
  have HR2 := Aside0.mk (HR.out.below hbw)
  go_wp2_with (first
    | (at_builtin; refine OB.append w2.heap.size rfl (.tmp 28) (.tmp 29) 22 5 rfl Try.underlying22 info_u8 _ [] bs A c rfl rfl (OB.lit w2 _ _ [] (by simp) (Nat.le_refl _) (by simp)) (HR2.out.below (below_alloc (Below.refl _ _) _)) (below_alloc (Below.refl _ _) _) (by simp) (by simp; omega) ?_; intro v1 w3 hown1 hbel1 hgr1 hat1; rw [List.nil_append] at hown1)
    | fail)
  rw [hK]
  have HB1 := Aside0.mk (own_base hown1.2)
  have H1 := Aside0.mk hown1
  clear hown1 hgr1 hat1 hK
  go_loopw [11, 12] (fun tt i wr => ∃ (k : Nat) (cs : List Nat), k ≤ 32 ∧ i = .int .i64 k ∧ tt = .bool (some1 x k) ∧ Aside0 (Turned bs cs K x k) ∧ Aside0 (OB wr w2.heap.size 5 v1 cs) ∧ Below w2.heap.size w2 wr) (fun _ i _ => 32 - (intOf i).toNat)
  case atStart => exact ⟨0, bs, by omega, rfl, by simp [some1, Nat.mod_one], ⟨turned_zero bs K x HR.out.1⟩, H1, hbel1⟩
  case round =>
    obtain ⟨i, cs, hi, rfl, rfl, HU, HO, hbr⟩ := hrel
    have HCL := Aside0.mk HU.out.1
    by_cases hlt : i < 32 ∧ K + i < 8 * bs.length
    · obtain ⟨hi32, hin⟩ := hlt
      have hq : (K + i) / 8 < bs.length := by omega
      have hxi : x / 2 ^ i < 4294967296 := Nat.lt_of_le_of_lt (Nat.div_le_self _ _) h32
      rcases (show x / 2 ^ i % 2 = 1 ∨ x / 2 ^ i % 2 = 0 by omega) with hbit | hbit
      · have hb1 : (bits .and .u32 ((x : Int) / 2 ^ i) 1 == 1) = true := by
          rw [show ((x : Int) / 2 ^ i) = ((x / 2 ^ i : Nat) : Int) by simp, and_one _ hxi, hbit]; rfl
        have HB := Aside0.mk hbit
        clear hbit
        obtain ⟨g1, p1, rfl, hg1, hg1'⟩ := HO.out.form' HCL.out hp
        obtain ⟨hx1, hx2⟩ := HO.out.at' HCL.out _ hq
        have hc8 : cs.getD ((K + i) / 8) 0 < 256 := by
          have := HCL.out
          rw [List.getD_eq_getElem?_getD, List.getElem?_eq_getElem (by omega)]
          exact HU.out.2.1 _ (List.getElem_mem _)
        have hpw : 2 ^ ((K + i) % 8) < 2 ^ 8 := Nat.pow_lt_pow_right (by omega) (Nat.mod_lt _ (by omega))
        have hv := Aside0.mk (show bits .xor .u8 ((cs.getD ((K + i) / 8) 0 : Nat) : Int) (2 ^ ((K + i) % 8) % 256) = ((cs.getD ((K + i) / 8) 0 ^^^ 2 ^ ((K + i) % 8) : Nat) : Int) by
          rw [pow_small _ hpw]
          exact u8_xor_nat _ _ hc8 hpw)
        have hx8 : cs.getD ((K + i) / 8) 0 ^^^ 2 ^ ((K + i) % 8) < 256 := Nat.xor_lt_two_pow (n := 8) hc8 hpw
        have P1 := Aside0.mk (HO.out.store' HCL.out ((K + i) / 8) _ hx8)
        have U1 := Aside0.mk (turned_hit HU.out HB.out hin)
        have hs1 := Aside0.mk (some1_hit x i HB.out)
        have hbr1 := Aside0.mk (below_drew (hbr.setCell (p := ⟨g1, (K + i) / 8, none⟩) hg1 (.int .u8 ((cs.getD ((K + i) / 8) 0 ^^^ 2 ^ ((K + i) % 8) : Nat) : Int))))
        go_wp2_with fail
        go_region
        rw [← List.getD_eq_getElem?_getD, hv.out]
        have S1 := Aside0.mk P1.out.1.drew
        have hbr2 := hbr1.out
        clear P1 hx1 hx2 hv hbr1 HO hbr hx8 hc8
        generalize (wr.setCell ⟨g1, (K + i) / 8, none⟩ (.int .u8 ((cs.getD ((K + i) / 8) 0 ^^^ 2 ^ ((K + i) % 8) : Nat) : Int))).drew = W2 at *
        go_wp2_with fail
        go_roundw
        case rel => exact ⟨i + 1, _, by omega, by go_num, by rw [hs1.out], U1, S1, hbr2⟩
        case measure => simp [intOf]; omega
      · have hb1 : (bits .and .u32 ((x : Int) / 2 ^ i) 1 == 1) = false := by
          rw [show ((x : Int) / 2 ^ i) = ((x / 2 ^ i : Nat) : Int) by simp, and_one _ hxi, hbit]; rfl
        have U1 := Aside0.mk (turned_miss HU.out hbit)
        have hs1 := Aside0.mk (some1_miss x i hbit)
        clear hbit
        go_wp2_with fail
        go_roundw
        case rel => exact ⟨i + 1, _, by omega, by go_num, by rw [hs1.out], U1, HO, hbr⟩
        case measure => simp [intOf]; omega
    · obtain ⟨C, q1, rfl, hrc⟩ := HO.out.reads
      rw [HCL.out]
      have HTr := Aside0.mk (HT.out.below hbr)
      have HRr := Aside0.mk (HR2.out.below hbr)
      have HC := Aside0.mk hrc
      have hend := Aside0.mk (ne_int _ _ _ (turned_end HU.out HR.out.1 (by omega) hi))
      have hfin := below_then hbw hbw.size hbr
      have k1 := add_lt 0 cs
      have k2 := add_lt 0 bs
      clear hrc HO
      by_cases h32' : i < 32
      · have hge : ¬ K + i < 8 * bs.length := fun h => hlt ⟨h32', h⟩
        clear hlt
        go_wp2_with fail
        refine (of_len _ _ _ _ cs _ HTr.out HC.out HCL.out (by omega)).mono ?_
        rintro e w5 ⟨rfl, rfl⟩
        go_wp2_with fail
        refine (of_any _ _ _ bs _ HTr.out HRr.out (by omega)).mono ?_
        rintro e w5 ⟨rfl, rfl⟩
        have hen := hend.out
        go_wp2_with fail
        go_ret
        exact ⟨by simp, hfin⟩
      · obtain rfl : i = 32 := by omega
        clear hlt
        go_wp2_with fail
        refine (of_len _ _ _ _ cs _ HTr.out HC.out HCL.out (by omega)).mono ?_
        rintro e w5 ⟨rfl, rfl⟩
        go_wp2_with fail
        refine (of_any _ _ _ bs _ HTr.out HRr.out (by omega)).mono ?_
        rintro e w5 ⟨rfl, rfl⟩
        have hen := hend.out
        go_wp2_with fail
        go_ret
        exact ⟨by simp, hfin⟩

theorem bursts_walk (a0 : Option Addr) (len0 cap0 : Nat) (z0 : List Int) (a1 a2 : Int) (w : World) (w0 : IsRow .u8 w a0 len0 cap0 z0) (y0 : len0 * 1 ≤ 140737488351232) (w1 : (Lit.int .u16 a1).wf = true) (w2 : (Lit.int .u32 a2).wf = true) :
    Calls Try.prog 6 #[.slice a0 len0 cap0, .int .u16 a1, .int .u32 a2] w fun e w' => e = .returned (.bool true) ∧ Below w.heap.size w w' := by
  obtain ⟨bs, rfl, hr, _⟩ := RB.of_row w0
  have h1 := u16_range w1
  have h2 := u32_range w2
  obtain ⟨p, rfl⟩ := Int.eq_ofNat_of_zero_le h1.1
  obtain ⟨x, rfl⟩ := Int.eq_ofNat_of_zero_le h2.1
  by_cases h : 300 < bs.length ∨ bs.length = 0
  · exact bursts_off cap0 p x a0 _ w h (by omega)
  · have hp : 0 < bs.length := by omega
    exact bursts_on cap0 p x (p % (8 * bs.length)) a0 bs w (by omega) (by simp) (Nat.mod_lt _ (by omega)) (by omega) hr (by omega) hp
end Go.Proofs.Ytegkpopkecemnaa.Crc
