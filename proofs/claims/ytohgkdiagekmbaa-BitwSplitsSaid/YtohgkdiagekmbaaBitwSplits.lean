/- Proved here: the law BitwSplits returns true for every input and changes nothing that was there. Conditions: none. -/
import Derived.Test.YtohgkdiagekmbaaBitwLaws
namespace Go.Proofs.Ytohgkdiagekmbaa.Bitw
open Go.RowKit Go.Proofs.YtohgkdiagekmbaaW.PrintWords Go.Proofs.Ytohgkdiagekmbaa.CrcM Go.Proofs.Ytohgkdiagekmbaa.BitsM Go.Proofs.Ytohgkdiagekmbaa.Base

theorem odd_mod (v odd K : Nat) (hK : K ≤ 24) : (v ^^^ (odd * 2 ^ K % 4294967296)) % 2 ^ K = v % 2 ^ K := by
  have h0 : odd * 2 ^ K % 4294967296 % 2 ^ K = 0 := by
    have h32 : (4294967296 : Nat) = 2 ^ K * 2 ^ (32 - K) := by rw [← Nat.pow_add, show K + (32 - K) = 32 by omega]
    rw [h32, Nat.mul_comm odd, Nat.mul_mod_mul_left, Nat.mul_mod_right]
  rw [Nat.xor_mod_two_pow, h0, Nat.xor_zero]
theorem cut_mod (v C K : Nat) (h : C ≤ K) : v % 2 ^ C + 2 ^ C * (v / 2 ^ C % 2 ^ (K - C)) = v % 2 ^ K := by
  have e : 2 ^ K = 2 ^ C * 2 ^ (K - C) := by rw [← Nat.pow_add]; congr 1; omega
  rw [e, Nat.mod_mul]
theorem odd_walk (v odd K : Nat) (hv : v < 4294967296) : bits .xor .u32 (v : Int) ((odd : Int) * 2 ^ K % 4294967296) = ((v ^^^ (odd * 2 ^ K % 4294967296) : Nat) : Int) := by
  have e : ((odd : Int) * 2 ^ K % 4294967296) = ((odd * 2 ^ K % 4294967296 : Nat) : Int) := by
    have e2 : ((2 : Int) ^ K) = ((2 ^ K : Nat) : Int) := by simp
    rw [e2]; omega
  rw [e]
  exact u32_xor_nat v _ hv (Nat.mod_lt _ (by omega))
/-- Two writers that share nothing. -/
def Apart2 (g : Nat) (v : Value) (g' : Nat) (v' : Value) : Prop := ∀ i, foot g v i → ¬ foot g' v' i
theorem Apart2.symm {g g' : Nat} {v v' : Value} (h : Apart2 g v g' v') : Apart2 g' v' g v := fun i a b => h i b a
theorem Apart2.next {w : World} {g g' B : Nat} {v v' v1 : Value} {bs : List Nat} {m : Nat} (h : Apart2 g v g' v') (hn : Next w v v1) (hw : Wr w B g' v' bs m) : Apart2 g v1 g' v' := by
  rintro i (e | e) b
  · exact h i (.inl e) b
  · rcases hn with hn | ⟨c, hc, hle⟩
    · exact h i (.inr (by rw [← hn]; exact e)) b
    · rw [hc] at e
      injection e with e
      have := hw.foot_lt i b
      omega
theorem Apart2.of {w w' : World} {B B' g g' : Nat} {v v' : Value} {bs bs' : List Nat} {m m' : Nat} (h : Wr w B g v bs m) (h' : Wr w' B' g' v' bs' m') (hB : w.heap.size ≤ B') : Apart2 g v g' v' := fun i a b => by
  have := h.foot_lt i a
  have := h'.foot_base i b
  omega
theorem closes_same (rs rs' : List Nat) (V W m : Nat) (hb : ∀ b ∈ rs, b < 256) (hb' : ∀ b ∈ rs', b < 256) (hl : rs.length = m / 8 + 1) (hl' : rs'.length = m / 8 + 1) (hv : val rs = V + 2 ^ m) (hv' : val rs' = W + 2 ^ m) (h : V = W) : (rs == rs') = true := by
  rw [beq_iff_eq]
  exact val_inj _ _ (by omega) hb hb' (by rw [hv, hv', h])

set_option maxRecDepth 100000 in
set_option maxHeartbeats 400000 in
theorem splits_long (c v n a o : Nat) (A : Option Addr) (l : Nat) (w : World) (hn : 60 < l) :
    Calls Try.prog 8 #[.slice A l c, .int .u32 (v : Int), .int .u8 (n : Int), .int .u8 (a : Int), .int .u32 (o : Int)] w fun e w' => e = .returned (.bool true) ∧ Below w.heap.size w w' := by
  go_enter Try.func8, Try.ntmps8
  go_wp2_with (go_at_call 19; refine (awake_any _).mono ?_; rintro e w1 ⟨rfl, hb1⟩)
  go_ret
  exact ⟨rfl, hb1⟩

set_option maxRecDepth 100000 in
set_option maxHeartbeats 1000000 in
theorem splits_short (c v n a o K C : Nat) (A : Option Addr) (ps : List (Nat × Int)) (w : World) (hr : RP w A ps) (hn : ps.length ≤ 60) (hv : v < 4294967296) (_ho : o < 4294967296) (hn8 : n < 256) (ha8 : a < 256)
    (hK : (n : Int) % 25 = (K : Int)) (hC : (a : Int) % ((K : Int) + 1) = (C : Int)) (hKl : K ≤ 24) (hCl : C ≤ K) :
    Calls Try.prog 8 #[.slice A ps.length c, .int .u32 (v : Int), .int .u8 (n : Int), .int .u8 (a : Int), .int .u32 (o : Int)] w fun e w' => e = .returned (.bool true) ∧ Below w.heap.size w w' := by
  have HR := Aside0.mk hr
  have HK := Aside0.mk hK
  have HC := Aside0.mk hC
  clear hr hK hC
  have hpl := puts_len ps (0, 0)
  go_enter Try.func8, Try.ntmps8
  go_wp2_with (go_at_call 19; refine (awake_any _).mono ?_; rintro e w1 ⟨rfl, hb1⟩)
  refine (puts_any _ A c ps (HR.out.below hb1) hn).mono ?_
  rintro e w2 ⟨gx, vx, bx, rfl, hx2, hvx, hb2⟩
  have hb2' := below_then hb1 hb1.size hb2
  have X2 := Aside0.mk hx2
  have VX := Aside0.mk hvx
  clear hx2 hvx
  go_wp2_with fail
  refine (puts_any _ A c ps (HR.out.below hb2') hn).mono ?_
  rintro e w3 ⟨gy, vy, bY, rfl, hy3, hvy, hb3⟩
  have hb3' := below_then hb2' hb2'.size hb3
  have Y3 := Aside0.mk hy3
  have VY := Aside0.mk hvy
  have X3 := Aside0.mk (X2.out.below hb3)
  have DXY := Aside0.mk (Apart2.of X2.out hy3 (Nat.le_refl _))
  clear hy3 hvy
  go_wp2_with fail
  refine (puts_any _ A c ps (HR.out.below hb3') hn).mono ?_
  rintro e w4 ⟨gz, vz, bz, rfl, hz4, hvz, hb4⟩
  have hb4' := below_then hb3' hb3'.size hb4
  have Z4 := Aside0.mk (hz4.lower hb3'.size)
  have VZ := Aside0.mk hvz
  have X4 := Aside0.mk ((X3.out.below hb4).lower hb1.size)
  have Y4 := Aside0.mk ((Y3.out.below hb4).lower hb2'.size)
  have DXZ := Aside0.mk (Apart2.of X3.out hz4 (Nat.le_refl _))
  have DYZ := Aside0.mk (Apart2.of Y3.out hz4 (Nat.le_refl _))
  have hm : (puts (0, 0) ps).2 ≤ 1440 := by omega
  clear hz4 hvz X2 X3 Y3 hb1 hb2 hb3 hb4 hb2' hb3' hpl
  generalize (puts (0, 0) ps).2 = m at *
  generalize (puts (0, 0) ps).1 = V at *
  go_wp2_with fail
  rw [HK.out, HC.out]
  clear HK HC
  have fx := X4.out.foot_base
  refine (put_any w4 _ gx m v K vx bx X4.out (by omega) hv hKl).mono ?_
  rintro e w5 ⟨rfl, vx5, bx5, hx5, hvx5, hk5, hn5⟩
  have Y5 := Aside0.mk (Y4.out.keep hk5 DXY.out.symm)
  have Z5 := Aside0.mk (Z4.out.keep hk5 DXZ.out.symm)
  have DXY5 := Aside0.mk (DXY.out.next hn5 Y4.out)
  have DXZ5 := Aside0.mk (DXZ.out.next hn5 Z4.out)
  have X5 := Aside0.mk hx5
  have VX5 := Aside0.mk hvx5
  have hb5 := hb4'.trans (hk5.below hb4'.size X4.out.foot_base)
  clear hx5 hvx5 hk5 hn5 X4 Y4 Z4 DXY DXZ fx
  go_wp2_with fail
  refine (put_any w5 _ gy m v C vy bY Y5.out (by omega) hv (by omega)).mono ?_
  rintro e w6 ⟨rfl, vy6, by6, hy6, hvy6, hk6, hn6⟩
  have X6 := Aside0.mk (X5.out.keep hk6 DXY5.out)
  have Z6 := Aside0.mk (Z5.out.keep hk6 DYZ.out.symm)
  have DXY6 := Aside0.mk (DXY5.out.symm.next hn6 X5.out).symm
  have DYZ6 := Aside0.mk (DYZ.out.next hn6 Z5.out)
  have Y6 := Aside0.mk hy6
  have VY6 := Aside0.mk hvy6
  have hb6 := hb5.trans (hk6.below hb5.size Y5.out.foot_base)
  clear hy6 hvy6 hk6 hn6 X5 Y5 Z5 DXY5 DYZ
  go_wp2_with fail
  rw [div_pow_cast, show ((K : Int) - (C : Int)) = ((K - C : Nat) : Int) by omega]
  have hvC : v / 2 ^ C < 4294967296 := Nat.lt_of_le_of_lt (Nat.div_le_self _ _) hv
  refine (put_any w6 _ gy (m + C) (v / 2 ^ C) (K - C) vy6 by6 Y6.out (by omega) hvC (by omega)).mono ?_
  rintro e w7 ⟨rfl, vy7, by7, hy7, hvy7, hk7, hn7⟩
  have X7 := Aside0.mk (X6.out.keep hk7 DXY6.out)
  have Z7 := Aside0.mk (Z6.out.keep hk7 DYZ6.out.symm)
  have DYZ7 := Aside0.mk (DYZ6.out.next hn7 Z6.out)
  have Y7 := Aside0.mk (show Wr w7 w.heap.size gy vy7 by7 (m + K) by rw [show m + C + (K - C) = m + K by omega] at hy7; exact hy7)
  have VY7 := Aside0.mk (show val by7 = val bY + 2 ^ m * (v % 2 ^ K) by rw [hvy7, VY6.out, ← cut_mod v C K hCl, Nat.mul_add, Nat.pow_add, Nat.mul_assoc, Nat.add_assoc])
  have hb7 := hb6.trans (hk7.below hb6.size Y6.out.foot_base)
  clear hy7 hvy7 hk7 hn7 X6 Y6 Z6 DXY6 DYZ6 VY6 hvC
  go_wp2_with fail
  rw [odd_walk v o K hv]
  have hod : v ^^^ (o * 2 ^ K % 4294967296) < 4294967296 := Nat.xor_lt_two_pow (n := 32) hv (Nat.mod_lt _ (by omega))
  refine (put_any w7 _ gz m _ K vz bz Z7.out (by omega) hod hKl).mono ?_
  rintro e w8 ⟨rfl, vz8, bz8, hz8, hvz8, hk8, hn8⟩
  have X8 := Aside0.mk (X7.out.keep hk8 (DXZ5.out))
  have Y8 := Aside0.mk (Y7.out.keep hk8 DYZ7.out)
  have Z8 := Aside0.mk hz8
  have VZ8 := Aside0.mk (show val bz8 = val bz + 2 ^ m * (v % 2 ^ K) by rw [hvz8, odd_mod v o K hKl])
  have hb8 := hb7.trans (hk8.below hb7.size Z7.out.foot_base)
  have EXY := Aside0.mk (show val bx5 = val by7 by rw [VX5.out, VY7.out, VX.out, VY.out])
  have EXZ := Aside0.mk (show val bx5 = val bz8 by rw [VX5.out, VZ8.out, VX.out, VZ.out])
  clear hz8 hvz8 hk8 hn8 X7 Y7 Z7 DXZ5 DYZ7 VX5 VY7 VZ8 VX VY VZ hod
  go_wp2_with fail
  refine (close_any w8 _ _ _ _ _ X8.out (by omega)).mono ?_
  rintro e w9 ⟨r1, s1, rfl, ho1, hl1, hv1, hb9⟩
  have Y9 := Aside0.mk (Y8.out.below hb9)
  have X9 := Aside0.mk (X8.out.below hb9)
  have Z9 := Aside0.mk (Z8.out.below hb9)
  have hb9' := below_then hb8 hb8.size hb9
  clear X8 Y8 Z8
  go_wp2_with fail
  refine (close_any w9 _ _ _ _ _ Y9.out (by omega)).mono ?_
  rintro e w10 ⟨r2, s2, rfl, ho2, hl2, hv2, hb10⟩
  have X10 := Aside0.mk (X9.out.below hb10)
  have Z10 := Aside0.mk (Z9.out.below hb10)
  have hb10' := below_then hb9' hb9'.size hb10
  have O1 := Aside0.mk (ho1.below hb10)
  obtain ⟨A1, c1, rfl, q1⟩ := O1.out.reads
  obtain ⟨A2, c2, rfl, q2⟩ := ho2.reads
  have Q1 := Aside0.mk q1
  have Q2 := Aside0.mk q2
  have ES := closes_same s1 s2 _ _ (m + K) q1.1 q2.1 hl1 hl2 hv1 hv2 EXY.out
  clear X9 Y9 Z9 q1 q2 ho1 ho2 O1 hl1 hl2 hv1 hv2
  go_wp2_with fail
  refine (same_any w10 A1 A2 c1 c2 s1 s2 Q1.out Q2.out).mono ?_
  rintro e w11 ⟨rfl, rfl⟩
  rw [ES]
  clear Q1 Q2 ES
  go_wp2_with fail
  refine (close_any w10 _ _ _ _ _ X10.out (by omega)).mono ?_
  rintro e w11 ⟨r3, s3, rfl, ho3, hl3, hv3, hb11⟩
  have Z11 := Aside0.mk (Z10.out.below hb11)
  have hb11' := below_then hb10' hb10'.size hb11
  clear X10 Z10
  go_wp2_with fail
  refine (close_any w11 _ _ _ _ _ Z11.out (by omega)).mono ?_
  rintro e w12 ⟨r4, s4, rfl, ho4, hl4, hv4, hb12⟩
  have hb12' := below_then hb11' hb11'.size hb12
  have O3 := Aside0.mk (ho3.below hb12)
  obtain ⟨A3, c3, rfl, q3⟩ := O3.out.reads
  obtain ⟨A4, c4, rfl, q4⟩ := ho4.reads
  have Q3 := Aside0.mk q3
  have Q4 := Aside0.mk q4
  have ES := closes_same s3 s4 _ _ (m + K) q3.1 q4.1 hl3 hl4 hv3 hv4 EXZ.out
  clear Z11 q3 q4 ho3 ho4 O3 hl3 hl4 hv3 hv4
  go_wp2_with fail
  refine (same_any w12 A3 A4 c3 c4 s3 s4 Q3.out Q4.out).mono ?_
  rintro e w13 ⟨rfl, rfl⟩
  rw [ES]
  clear Q3 Q4 ES
  go_wp2_with fail
  go_ret
  exact ⟨rfl, hb12'⟩

theorem splits_walk (a0 : Option Addr) (len0 cap0 : Nat) (z0 : List (Nat × Int)) (a1 a2 a3 a4 : Int) (w : World) (w0 : len0 = z0.length ∧ RP w a0 z0) (w1 : (Lit.int .u32 a1).wf = true) (w2 : (Lit.int .u8 a2).wf = true) (w3 : (Lit.int .u8 a3).wf = true) (w4 : (Lit.int .u32 a4).wf = true) :
    Calls Try.prog 8 #[.slice a0 len0 cap0, .int .u32 a1, .int .u8 a2, .int .u8 a3, .int .u32 a4] w fun e w' => e = .returned (.bool true) ∧ Below w.heap.size w w' := by
  obtain ⟨rfl, hr⟩ := w0
  have h1 := u32_range w1
  have h2 := u8_range w2
  have h3 := u8_range w3
  have h4 := u32_range w4
  obtain ⟨v, rfl⟩ := Int.eq_ofNat_of_zero_le h1.1
  obtain ⟨n, rfl⟩ := Int.eq_ofNat_of_zero_le h2.1
  obtain ⟨a, rfl⟩ := Int.eq_ofNat_of_zero_le h3.1
  obtain ⟨o, rfl⟩ := Int.eq_ofNat_of_zero_le h4.1
  rcases Nat.lt_or_ge 60 z0.length with h | h
  · exact splits_long cap0 v n a o a0 _ w h
  · have hC : a % (n % 25 + 1) ≤ n % 25 := by have := Nat.mod_lt a (show n % 25 + 1 > 0 by omega); omega
    exact splits_short cap0 v n a o (n % 25) (a % (n % 25 + 1)) a0 z0 w hr h (by omega) (by omega) (by omega) (by omega) (by omega) (by simp) (by omega) hC
end Go.Proofs.Ytohgkdiagekmbaa.Bitw
