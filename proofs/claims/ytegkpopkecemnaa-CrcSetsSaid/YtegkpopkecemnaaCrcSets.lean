/- Proved here: the law CrcSets returns true for every input and changes nothing that was there. Conditions: none. -/
import Derived.Test.YtegkpopkecemnaaCrcWalks
namespace Go.Proofs.Ytegkpopkecemnaa.Crc
open Go.RowKit Go.Proofs.YtegkpopkecemnaaW.PrintWords Go.Proofs.Ytegkpopkecemnaa.CrcM Go.Proofs.Ytegkpopkecemnaa.Base

set_option maxRecDepth 100000 in
set_option maxHeartbeats 400000 in
theorem sets_long (c s : Nat) (A : Option Addr) (n : Nat) (w : World) (hn : 300 < n) (hm : n ≤ 140737488351232) :
    Calls Try.prog 7 #[.slice A n c, .int .u32 (s : Int)] w fun e w' => e = .returned (.bool true) ∧ Below w.heap.size w w' := by
  go_enter Try.func7, Try.ntmps7
  go_wp2_with (go_at_call 9; refine (awake_any _).mono ?_; rintro e w1 ⟨rfl, hb1⟩)
  refine (new_any _).mono ?_
  rintro e w2 ⟨rfl, hb2, -⟩
  go_wp2_with fail
  go_ret
  exact ⟨rfl, below_then hb1 hb1.size hb2⟩

theorem bk_hit (X : Nat) (hX : X < 4294967296) (h : ((X : Int) / 2147483648 == 1) = true) : 2 * bits .xor .u32 (X : Int) 3988292384 % 4294967296 + (X : Int) / 2147483648 = ((bk X : Nat) : Int) := by
  rw [beq_iff_eq] at h
  have e : bits .xor .u32 (X : Int) 3988292384 = ((X ^^^ 3988292384 : Nat) : Int) := u32_xor_nat X 3988292384 hX (by omega)
  rw [e, h]
  unfold bk
  rw [if_pos (by omega)]
  generalize X ^^^ 3988292384 = Y
  omega
theorem bk_miss (X : Nat) (hX : X < 4294967296) (h : ((X : Int) / 2147483648 == 1) = false) : 2 * (X : Int) % 4294967296 + (X : Int) / 2147483648 = ((bk X : Nat) : Int) := by
  rw [beq_eq_false_iff_ne] at h
  unfold bk
  rw [if_neg (by omega)]
  omega
theorem four_world (w : World) (Y : Nat) : RB (w.alloc (.cells #[.int .u8 ((Y : Int) % 256), .int .u8 ((Y : Int) / 256 % 256), .int .u8 ((Y : Int) / 65536 % 256), .int .u8 ((Y : Int) / 16777216 % 256)] 5)) (some ⟨w.heap.size, 0, none⟩)
    [Y % 256, Y / 256 % 256, Y / 65536 % 256, Y / 16777216 % 256] := by
  have h := RB.of_alloc w 5 (0, 0) [Y % 256, Y / 256 % 256, Y / 65536 % 256, Y / 16777216 % 256] (by intro b hb; simp only [List.mem_cons, List.not_mem_nil, or_false] at hb; omega) (by simp)
  simpa using h

set_option maxRecDepth 100000 in
set_option maxHeartbeats 400000 in
theorem sets_short (c s : Nat) (A : Option Addr) (bs : List Nat) (w : World) (hs : s < 4294967296) (hr : RB w A bs) (hn : bs.length ≤ 300) :
    Calls Try.prog 7 #[.slice A bs.length c, .int .u32 (s : Int)] w fun e w' => e = .returned (.bool true) ∧ Below w.heap.size w w' := by
  have HR := Aside0.mk hr
  clear hr
  go_enter Try.func7, Try.ntmps7
  go_wp2_with (go_at_call 9; refine (awake_any _).mono ?_; rintro e w1 ⟨rfl, hb1⟩)
  refine (new_any _).mono ?_
  rintro e w2 ⟨rfl, hb2, ht⟩
  have HT := Aside0.mk (show Tab w2 w1.heap.size from ht)
  clear ht
  have hbw := below_then hb1 hb1.size hb2
  have HR2 := Aside0.mk (HR.out.below hbw)
  go_wp2_with fail
  refine (of_any _ _ _ _ _ HT.out HR2.out (by omega)).mono ?_
  rintro e w3 ⟨rfl, rfl⟩
  have hsum := add_lt 0 bs
  generalize CrcM.add 0 bs = sum at *
  go_wp2_with fail
  go_loop [8, 9] (fun x i => ∃ k : Nat, k ≤ 32 ∧ i = .int .i64 k ∧ x = .int .u32 (bkn k (4294967295 - s) : Nat)) (fun _ i => 32 - (intOf i).toNat)
  case atStart => exact ⟨0, by omega, rfl, by rw [show (4294967295 - (s : Int)) = ((4294967295 - s : Nat) : Int) by omega]; rfl⟩
  case round =>
    obtain ⟨k, hk, rfl, rfl⟩ := hrel
    have hX : bkn k (4294967295 - s) < 4294967296 := bkn_lt k (by omega)
    by_cases hlt : k < 32
    · have hstep := Aside0.mk (show bkn (k + 1) (4294967295 - s) = bk (bkn k (4294967295 - s)) from rfl)
      generalize bkn k (4294967295 - s) = X at *
      go_wp2_with fail
      · have h1 : ((X : Int) / 2147483648 == 1) = true := by assumption
        go_roundw
        case rel => exact ⟨k + 1, by omega, by go_num, by rw [hstep.out, bk_hit X hX h1]⟩
        case measure => simp [intOf]; omega
      · have h1 : ((X : Int) / 2147483648 == 1) = false := by assumption
        go_roundw
        case rel => exact ⟨k + 1, by omega, by go_num, by rw [hstep.out, bk_miss X hX h1]⟩
        case measure => simp [intOf]; omega
    · obtain rfl : k = 32 := by omega
      have hY := Aside0.mk (sets sum s hsum hs _ rfl)
      have hx : bits .xor .u32 ((bkn 32 (4294967295 - s) : Nat) : Int) (4294967295 - (sum : Int)) = ((bkn 32 (4294967295 - s) ^^^ (4294967295 - sum) : Nat) : Int) := by
        rw [show (4294967295 - (sum : Int)) = ((4294967295 - sum : Nat) : Int) by omega]
        exact u32_xor_nat _ _ hX (by omega)
      generalize bkn 32 (4294967295 - s) ^^^ (4294967295 - sum) = Y at *
      go_wp2_with fail
      refine (add_any _ sum 4 (some ⟨w2.heap.size, 0, none⟩) [Y % 256, Y / 256 % 256, Y / 65536 % 256, Y / 16777216 % 256] _ (HT.out.below (below_alloc (Below.refl _ _) _)) hsum (four_world w2 Y) (by simp)).mono ?_
      rintro e w3 ⟨rfl, rfl⟩
      rw [hY.out]
      go_wp2_with fail
      go_ret
      exact ⟨rfl, hbw.alloc hbw.size _⟩

theorem sets_walk (a0 : Option Addr) (len0 cap0 : Nat) (z0 : List Int) (a1 : Int) (w : World) (w0 : IsRow .u8 w a0 len0 cap0 z0) (y0 : len0 * 1 ≤ 140737488351232) (w1 : (Lit.int .u32 a1).wf = true) :
    Calls Try.prog 7 #[.slice a0 len0 cap0, .int .u32 a1] w fun e w' => e = .returned (.bool true) ∧ Below w.heap.size w w' := by
  obtain ⟨bs, rfl, hr, _⟩ := RB.of_row w0
  have hs := u32_range w1
  obtain ⟨s, rfl⟩ := Int.eq_ofNat_of_zero_le hs.1
  rcases Nat.lt_or_ge 300 bs.length with h | h
  · exact sets_long cap0 s a0 _ w h (by omega)
  · exact sets_short cap0 s a0 bs w (by omega) hr h
end Go.Proofs.Ytegkpopkecemnaa.Crc
