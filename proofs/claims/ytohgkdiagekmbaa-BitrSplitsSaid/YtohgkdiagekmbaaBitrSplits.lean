/- Proved here: the law BitrSplits returns true for every input and changes nothing that was there. Conditions: none. -/
import Derived.Test.YtohgkdiagekmbaaBitrLaws
namespace Go.Proofs.Ytohgkdiagekmbaa.Bitr
open Go.RowKit Go.Proofs.YtohgkdiagekmbaaW.PrintWords Go.Proofs.Ytohgkdiagekmbaa.CrcM Go.Proofs.Ytohgkdiagekmbaa.BitsM Go.Proofs.Ytohgkdiagekmbaa.Base Go.Proofs.Ytohgkdiagekmbaa.Bitw

theorem cut_mod (v C K : Nat) (h : C ≤ K) : v % 2 ^ C + 2 ^ C * (v / 2 ^ C % 2 ^ (K - C)) = v % 2 ^ K := by
  have e : 2 ^ K = 2 ^ C * 2 ^ (K - C) := by rw [← Nat.pow_add]; congr 1; omega
  rw [e, Nat.mod_mul]
/-- The higher part, and then the lower one. -/
theorem hi_lo (V L K C : Nat) (hK : K ≤ L) (hC : C ≤ K) (h24 : K ≤ 24) :
    bits .or .u32 (((V / 2 ^ (L - C) % 2 ^ C : Nat) : Int) * 2 ^ (K - C) % 4294967296) ((V / 2 ^ (L - C - (K - C)) % 2 ^ (K - C) : Nat) : Int) = ((V / 2 ^ (L - K) % 2 ^ K : Nat) : Int) := by
  have e1 : V / 2 ^ (L - C) = V / 2 ^ (L - K) / 2 ^ (K - C) := by
    rw [Nat.div_div_eq_div_mul, ← Nat.pow_add]; congr 2; omega
  have e2 : L - C - (K - C) = L - K := by omega
  rw [e1, e2]
  generalize V / 2 ^ (L - K) = Y
  have h1 := cut_mod Y (K - C) K (by omega)
  rw [show K - (K - C) = C by omega] at h1
  have h2 : Y % 2 ^ K < 2 ^ K := Nat.mod_lt _ (Nat.two_pow_pos _)
  have h3 : 2 ^ K ≤ 2 ^ 24 := Nat.pow_le_pow_right (by omega) h24
  have h4 : Y % 2 ^ (K - C) < 2 ^ (K - C) := Nat.mod_lt _ (Nat.two_pow_pos _)
  have e3 : (((Y / 2 ^ (K - C) % 2 ^ C : Nat) : Int) * 2 ^ (K - C) % 4294967296) = ((Y / 2 ^ (K - C) % 2 ^ C * 2 ^ (K - C) : Nat) : Int) := by
    have e4 : ((2 : Int) ^ (K - C)) = ((2 ^ (K - C) : Nat) : Int) := by simp
    have h5 : Y / 2 ^ (K - C) % 2 ^ C * 2 ^ (K - C) < 4294967296 := by
      rw [Nat.mul_comm]; omega
    rw [e4, ← Int.natCast_mul]
    omega
  rw [e3, u32_or_nat _ _ (by rw [Nat.mul_comm]; omega) (by omega), Nat.or_comm, or_low _ _ _ h4, Nat.mul_comm, h1]

set_option maxRecDepth 100000 in
set_option maxHeartbeats 400000 in
theorem splits_long (c n a : Nat) (A : Option Addr) (l : Nat) (w : World) (hn : 200 < l) :
    Calls Try.prog 4 #[.slice A l c, .int .u8 (n : Int), .int .u8 (a : Int)] w fun e w' => e = .returned (.bool true) ∧ Below w.heap.size w w' := by
  go_enter Try.func4, Try.ntmps4
  go_wp2_with (go_at_call 13; refine (awake2_any _).mono ?_; rintro e w1 ⟨rfl, hb1⟩)
  go_ret
  exact ⟨rfl, hb1⟩
set_option maxRecDepth 100000 in
set_option maxHeartbeats 400000 in
theorem splits_no (c n a K C : Nat) (A : Option Addr) (bs : List Nat) (w : World) (hr : RB w A bs) (hn : bs.length ≤ 200) (hm : ¬ Marked bs) (hn8 : n < 256) (ha8 : a < 256)
    (hK : (n : Int) % 25 = (K : Int)) (hC : (a : Int) % ((K : Int) + 1) = (C : Int)) (_hKl : K ≤ 24) (_hCl : C ≤ K) :
    Calls Try.prog 4 #[.slice A bs.length c, .int .u8 (n : Int), .int .u8 (a : Int)] w fun e w' => e = .returned (.bool true) ∧ Below w.heap.size w w' := by
  have HR := Aside0.mk hr
  have HM := Aside0.mk hm
  have HK := Aside0.mk hK
  have HC := Aside0.mk hC
  clear hr hm hK hC
  go_enter Try.func4, Try.ntmps4
  go_wp2_with (go_at_call 13; refine (awake2_any _).mono ?_; rintro e w1 ⟨rfl, hb1⟩)
  refine (new_no _ _ _ bs (HR.out.below hb1) (by omega) HM.out).mono ?_
  rintro e w2 ⟨rfl, rfl⟩
  go_wp2_with fail
  refine (new_no _ _ _ bs (HR.out.below hb1) (by omega) HM.out).mono ?_
  rintro e w2 ⟨rfl, rfl⟩
  go_wp2_with fail
  go_ret
  exact ⟨rfl, hb1⟩
set_option maxRecDepth 100000 in
set_option maxHeartbeats 1000000 in
theorem splits_yes (c n a K C : Nat) (A : Option Addr) (bs : List Nat) (w : World) (hr : RB w A bs) (hn : bs.length ≤ 200) (hm : Marked bs) (hn8 : n < 256) (ha8 : a < 256)
    (hK : (n : Int) % 25 = (K : Int)) (hC : (a : Int) % ((K : Int) + 1) = (C : Int)) (hKl : K ≤ 24) (hCl : C ≤ K) :
    Calls Try.prog 4 #[.slice A bs.length c, .int .u8 (n : Int), .int .u8 (a : Int)] w fun e w' => e = .returned (.bool true) ∧ Below w.heap.size w w' := by
  have HR := Aside0.mk hr
  have HM := Aside0.mk hm
  have HK := Aside0.mk hK
  have HC := Aside0.mk hC
  clear hr hm hK hC
  go_enter Try.func4, Try.ntmps4
  go_wp2_with (go_at_call 13; refine (awake2_any _).mono ?_; rintro e w1 ⟨rfl, hb1⟩)
  refine (new_yes _ _ _ bs (HR.out.below hb1) (by omega) HM.out).mono ?_
  rintro e w2 ⟨gx, vx, rfl, hx2, hb2⟩
  have hb2' := below_then hb1 hb1.size hb2
  have X2 := Aside0.mk hx2
  clear hx2
  go_wp2_with fail
  refine (new_yes _ _ _ bs (HR.out.below hb2') (by omega) HM.out).mono ?_
  rintro e w3 ⟨gy, vy, rfl, hy3, hb3⟩
  have hb3' := below_then hb2' hb2'.size hb3
  have Y3 := Aside0.mk hy3
  have X3 := Aside0.mk (X2.out.below hb3)
  have hfx : ∀ i, i = gx → w.heap.size ≤ i := fun i hi => by have := X2.out.base; have := hb1.size; omega
  have hfy : ∀ i, i = gy → w.heap.size ≤ i := fun i hi => by have := hy3.base; have := hb2'.size; omega
  clear hy3
  have HL := Aside0.mk (show lft bs < 8 * bs.length from X2.out.llt)
  generalize hLL : lft bs = L at *
  clear hLL
  have hL := HL.out
  go_wp2_with fail
  rw [HK.out, HC.out]
  clear HK HC
  refine (left_any _ _ _ _ _ _ X3.out).mono ?_
  rintro e w4 ⟨rfl, rfl⟩
  by_cases hKL : L < K
  · go_wp2_with fail
    go_ret
    exact ⟨rfl, hb3'⟩
  · go_wp2_with fail
    refine (take_any _ _ _ _ K _ _ X3.out (by omega) (by omega) (by omega)).mono ?_
    rintro e w4 ⟨rfl, hx4, hk4⟩
    have hb4 := hb3'.trans (hk4.below hb3'.size hfx)
    have Y4 := Aside0.mk (Rd.apart X2.out Y3.out (Nat.le_refl _) Y3.out hk4)
    have X4 := Aside0.mk hx4
    clear hx4 hk4
    have HV := Aside0.mk (hi_lo (val bs) L K C (by omega) hCl hKl)
    generalize val bs / 2 ^ (L - K) % 2 ^ K = Z at *
    go_wp2_with fail
    refine (take_any _ _ _ _ C _ _ Y4.out (by omega) (by omega) (by omega)).mono ?_
    rintro e w5 ⟨rfl, hy5, hk5⟩
    have hb5 := hb4.trans (hk5.below hb4.size hfy)
    have X5 := Aside0.mk (Rd.apart' X2.out Y3.out (Nat.le_refl _) X4.out hk5)
    have Y5 := Aside0.mk hy5
    clear hy5 hk5
    generalize val bs / 2 ^ (L - C) % 2 ^ C = H at *
    have eKC : ((K : Int) - (C : Int)) = ((K - C : Nat) : Int) := by omega
    go_wp2_with fail
    refine (take_any _ _ _ _ (K - C) _ _ Y5.out (by omega) (by omega) (by omega)).mono ?_
    rintro e w6 ⟨rfl, hy6, hk6⟩
    have hb6 := hb5.trans (hk6.below hb5.size hfy)
    have X6 := Aside0.mk (Rd.apart' X2.out Y3.out (Nat.le_refl _) X5.out hk6)
    have Y6 := Aside0.mk hy6
    clear hy6 hk6
    generalize val bs / 2 ^ (L - C - (K - C)) % 2 ^ (K - C) = G at *
    have HVi := HV.out
    go_wp2_with fail
    refine (left_any _ _ _ _ _ _ X6.out).mono ?_
    rintro e w7 ⟨rfl, rfl⟩
    go_wp2_with fail
    refine (left_any _ _ _ _ _ _ Y6.out).mono ?_
    rintro e w7 ⟨rfl, rfl⟩
    have eL : (((L - C - (K - C) : Nat) : Int)) = ((L - K : Nat) : Int) := by omega
    go_wp2_with fail
    go_ret
    exact ⟨rfl, hb6⟩

theorem splits_walk (a0 : Option Addr) (len0 cap0 : Nat) (z0 : List Int) (a1 a2 : Int) (w : World) (w0 : IsRow .u8 w a0 len0 cap0 z0) (_y0 : len0 * 1 ≤ 140737488351232) (w1 : (Lit.int .u8 a1).wf = true) (w2 : (Lit.int .u8 a2).wf = true) :
    Calls Try.prog 4 #[.slice a0 len0 cap0, .int .u8 a1, .int .u8 a2] w fun e w' => e = .returned (.bool true) ∧ Below w.heap.size w w' := by
  obtain ⟨bs, rfl, hr, _⟩ := RB.of_row w0
  have h1 := u8_range w1
  have h2 := u8_range w2
  obtain ⟨n, rfl⟩ := Int.eq_ofNat_of_zero_le h1.1
  obtain ⟨a, rfl⟩ := Int.eq_ofNat_of_zero_le h2.1
  have hC : a % (n % 25 + 1) ≤ n % 25 := by have := Nat.mod_lt a (show n % 25 + 1 > 0 by omega); omega
  rcases Nat.lt_or_ge 200 bs.length with h | h
  · exact splits_long cap0 n a a0 _ w h
  · by_cases hm : Marked bs
    · exact splits_yes cap0 n a (n % 25) (a % (n % 25 + 1)) a0 bs w hr h hm (by omega) (by omega) (by omega) (by simp) (by omega) hC
    · exact splits_no cap0 n a (n % 25) (a % (n % 25 + 1)) a0 bs w hr h hm (by omega) (by omega) (by omega) (by simp) (by omega) hC
end Go.Proofs.Ytohgkdiagekmbaa.Bitr
