/- Proved here: the law CrcTells returns true for every input and changes nothing that was there. Conditions: none. -/
import Derived.Test.YtegkpopkecemnaaCrcWalks
namespace Go.Proofs.Ytegkpopkecemnaa.Crc
open Go.RowKit Go.Proofs.YtegkpopkecemnaaW.PrintWords Go.Proofs.Ytegkpopkecemnaa.CrcM Go.Proofs.Ytegkpopkecemnaa.Base

set_option maxRecDepth 100000 in
set_option maxHeartbeats 400000 in
theorem tells_long (c s : Nat) (A : Option Addr) (bs : List Nat) (w : World) (hn : 300 < bs.length) (hm : bs.length ≤ 140737488351232) :
    Calls Try.prog 3 #[.slice A bs.length c, .int .u32 (s : Int)] w fun e w' => e = .returned (.bool true) ∧ Below w.heap.size w w' := by
  go_enter Try.func3, Try.ntmps3
  go_wp2_with (go_at_call 9; refine (awake_any _).mono ?_; rintro e w1 ⟨rfl, hb1⟩)
  refine (new_any _).mono ?_
  rintro e w2 ⟨rfl, hb2, -⟩
  go_wp2_with fail
  go_ret
  exact ⟨rfl, below_then hb1 hb1.size hb2⟩

set_option maxRecDepth 100000 in
set_option maxHeartbeats 400000 in
theorem tells_short (c s : Nat) (A : Option Addr) (bs : List Nat) (w : World) (hs : s < 4294967296) (hr : RB w A bs) (hn : bs.length ≤ 300) :
    Calls Try.prog 3 #[.slice A bs.length c, .int .u32 (s : Int)] w fun e w' => e = .returned (.bool true) ∧ Below w.heap.size w w' := by
  have HR := Aside0.mk hr
  clear hr
  go_enter Try.func3, Try.ntmps3
  go_wp2_with (go_at_call 9; refine (awake_any _).mono ?_; rintro e w1 ⟨rfl, hb1⟩)
  refine (new_any _).mono ?_
  rintro e w2 ⟨rfl, hb2, ht⟩
  have HT := Aside0.mk (show Tab w2 w1.heap.size from ht)
  clear ht
  have hbw := below_then hb1 hb1.size hb2
  have HR2 := Aside0.mk (HR.out.below hbw)
  go_wp2_with fail
  refine (of_any _ _ _ _ _ HT.out HR2.out (by omega)).mono ?_
  rintro e w3 ⟨rfl, rfl⟩
  go_wp2_with fail
  refine (refof_any _ _ _ _ HR2.out (by omega)).mono ?_
  rintro e w3 ⟨rfl, rfl⟩
  go_wp2_with fail
  refine (add_any _ _ _ _ _ _ HT.out hs HR2.out (by omega)).mono ?_
  rintro e w3 ⟨rfl, rfl⟩
  go_wp2_with fail
  refine (refadd_any _ _ _ _ _ hs HR2.out (by omega)).mono ?_
  rintro e w3 ⟨rfl, rfl⟩
  go_wp2_with fail
  go_ret
  exact ⟨rfl, hbw⟩

theorem tells_walk (a0 : Option Addr) (len0 cap0 : Nat) (z0 : List Int) (a1 : Int) (w : World) (w0 : IsRow .u8 w a0 len0 cap0 z0) (y0 : len0 * 1 ≤ 140737488351232) (w1 : (Lit.int .u32 a1).wf = true) :
    Calls Try.prog 3 #[.slice a0 len0 cap0, .int .u32 a1] w fun e w' => e = .returned (.bool true) ∧ Below w.heap.size w w' := by
  obtain ⟨bs, rfl, hr, _⟩ := RB.of_row w0
  have hs := u32_range w1
  obtain ⟨s, rfl⟩ := Int.eq_ofNat_of_zero_le hs.1
  rcases Nat.lt_or_ge 300 bs.length with h | h
  · exact tells_long cap0 s a0 bs w h (by omega)
  · exact tells_short cap0 s a0 bs w (by omega) hr h
end Go.Proofs.Ytegkpopkecemnaa.Crc
