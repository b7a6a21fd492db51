/- Proved here: the law BitwMark returns true for every input and changes nothing that was there. Conditions: none. -/
import Derived.Test.YtohgkdiagekmbaaBitwLaws
namespace Go.Proofs.Ytohgkdiagekmbaa.Bitw
open Go.RowKit Go.Proofs.YtohgkdiagekmbaaW.PrintWords Go.Proofs.Ytohgkdiagekmbaa.CrcM Go.Proofs.Ytohgkdiagekmbaa.BitsM Go.Proofs.Ytohgkdiagekmbaa.Base

theorem mark (rs : List Nat) (V m : Nat) (hb : ∀ b ∈ rs, b < 256) (hv : val rs = V + 2 ^ m) (hV : V < 2 ^ m) : rs.getD (m / 8) 0 / 2 ^ (m % 8) = 1 := by
  rw [val_at rs _ hb, hv]
  have hm : 2 ^ m = 2 ^ (8 * (m / 8)) * 2 ^ (m % 8) := by rw [← Nat.pow_add]; congr 1; omega
  have h1 : (V + 2 ^ m) / 2 ^ (8 * (m / 8)) < 2 ^ (m % 8) * 2 := by
    rw [Nat.div_lt_iff_lt_mul (Nat.two_pow_pos _), Nat.mul_comm, ← Nat.mul_assoc, ← hm]
    omega
  have hp : 2 ^ (m % 8) ≤ 2 ^ 7 := Nat.pow_le_pow_right (by omega) (by omega)
  rw [Nat.mod_eq_of_lt (by omega), Nat.div_div_eq_div_mul, ← hm, Nat.add_div_right _ (Nat.two_pow_pos m), Nat.div_eq_of_lt hV]

set_option maxRecDepth 100000 in
set_option maxHeartbeats 400000 in
theorem mark_long (c : Nat) (A : Option Addr) (n : Nat) (w : World) (hn : 60 < n) :
    Calls Try.prog 7 #[.slice A n c] w fun e w' => e = .returned (.bool true) ∧ Below w.heap.size w w' := by
  go_enter Try.func7, Try.ntmps7
  go_wp2_with (go_at_call 19; refine (awake_any _).mono ?_; rintro e w1 ⟨rfl, hb1⟩)
  go_ret
  exact ⟨rfl, hb1⟩

set_option maxRecDepth 100000 in
set_option maxHeartbeats 400000 in
theorem mark_short (c : Nat) (A : Option Addr) (ps : List (Nat × Int)) (w : World) (hr : RP w A ps) (hn : ps.length ≤ 60) :
    Calls Try.prog 7 #[.slice A ps.length c] w fun e w' => e = .returned (.bool true) ∧ Below w.heap.size w w' := by
  have HR := Aside0.mk hr
  clear hr
  have hpl := puts_len ps (0, 0)
  go_enter Try.func7, Try.ntmps7
  go_wp2_with (go_at_call 19; refine (awake_any _).mono ?_; rintro e w1 ⟨rfl, hb1⟩)
  refine (puts_any _ A c ps (HR.out.below hb1) hn).mono ?_
  rintro e w2 ⟨g, v, bs, rfl, hw2, hv2, hb2⟩
  have hm : (puts (0, 0) ps).2 ≤ 1440 := by omega
  have HW2 := Aside0.mk hw2
  have hb2' := below_then hb1 hb1.size hb2
  clear hw2 hv2 hb2 hpl
  generalize (puts (0, 0) ps).2 = m at *
  go_wp2_with fail
  refine (close_any w2 _ _ _ _ _ HW2.out (by omega)).mono ?_
  rintro e w3 ⟨r, rs, rfl, hr3, hl3, hv3, hb3⟩
  have hb3' := below_then hb2' hb2'.size hb3
  have HW3 := Aside0.mk (HW2.out.below hb3)
  obtain ⟨g3, p3, rfl, hg3, hg3'⟩ := hr3.form' hl3 (by omega)
  obtain ⟨hx1, hx2⟩ := hr3.at' hl3 (m / 8) (by omega)
  have HM := Aside0.mk (mark rs (val bs) m hr3.1 hv3 HW2.out.vlt)
  clear hr3 hl3 hv3 hb3 hx2
  go_wp2_with fail
  refine (bits_any w3 _ _ _ _ _ HW3.out).mono ?_
  rintro e w4 ⟨rfl, rfl⟩
  go_wp2_with fail
  go_ret
  exact ⟨ret_bool (by rw [← List.getD_eq_getElem?_getD, div_pow_cast, HM.out]; rfl), hb3'⟩

theorem mark_walk (a0 : Option Addr) (len0 cap0 : Nat) (z0 : List (Nat × Int)) (w : World) (w0 : len0 = z0.length ∧ RP w a0 z0) :
    Calls Try.prog 7 #[.slice a0 len0 cap0] w fun e w' => e = .returned (.bool true) ∧ Below w.heap.size w w' := by
  obtain ⟨rfl, hr⟩ := w0
  rcases Nat.lt_or_ge 60 z0.length with h | h
  · exact mark_long cap0 a0 _ w h
  · exact mark_short cap0 a0 z0 w hr h
end Go.Proofs.Ytohgkdiagekmbaa.Bitw
