/- Proved here: the law CrcJoins returns true for every input and changes nothing that was there. Conditions: none. -/
import Derived.Test.YtegkpopkecemnaaCrcWalks
namespace Go.Proofs.Ytegkpopkecemnaa.Crc
open Go.RowKit Go.Proofs.YtegkpopkecemnaaW.PrintWords Go.Proofs.Ytegkpopkecemnaa.CrcM Go.Proofs.Ytegkpopkecemnaa.Base

set_option maxRecDepth 100000 in
set_option maxHeartbeats 400000 in
theorem joins_long (c d s : Nat) (A B : Option Addr) (n m : Nat) (w : World) (hn : 300 < n ∨ 300 < m) (hn1 : n ≤ 140737488351232) (hm : m ≤ 140737488351232) :
    Calls Try.prog 4 #[.slice A n c, .slice B m d, .int .u32 (s : Int)] w fun e w' => e = .returned (.bool true) ∧ Below w.heap.size w w' := by
  rcases Nat.lt_or_ge 300 n with h | h
  · clear hn
    go_enter Try.func4, Try.ntmps4
    go_wp2_with (go_at_call 9; refine (awake_any _).mono ?_; rintro e w1 ⟨rfl, hb1⟩)
    refine (new_any _).mono ?_
    rintro e w2 ⟨rfl, hb2, -⟩
    go_wp2_with fail
    go_ret
    exact ⟨rfl, below_then hb1 hb1.size hb2⟩
  · have hm' : 300 < m := by omega
    clear hn
    go_enter Try.func4, Try.ntmps4
    go_wp2_with (go_at_call 9; refine (awake_any _).mono ?_; rintro e w1 ⟨rfl, hb1⟩)
    refine (new_any _).mono ?_
    rintro e w2 ⟨rfl, hb2, -⟩
    go_wp2_with fail
    go_ret
    exact ⟨rfl, below_then hb1 hb1.size hb2⟩

set_option maxRecDepth 100000 in
set_option maxHeartbeats 400000 in
theorem joins_short (c d s : Nat) (A B : Option Addr) (xs ys : List Nat) (w : World) (hs : s < 4294967296) (hr : RB w A xs) (hr' : RB w B ys) (hn : xs.length ≤ 300) (hm : ys.length ≤ 300) :
    Calls Try.prog 4 #[.slice A xs.length c, .slice B ys.length d, .int .u32 (s : Int)] w fun e w' => e = .returned (.bool true) ∧ Below w.heap.size w w' := by
  have HR := Aside0.mk hr
  have HS := Aside0.mk hr'
  clear hr hr'
  go_enter Try.func4, Try.ntmps4
  go_wp2_with (go_at_call 9; refine (awake_any _).mono ?_; rintro e w1 ⟨rfl, hb1⟩)
  refine (new_any _).mono ?_
  rintro e w2 ⟨rfl, hb2, ht⟩
  have HT := Aside0.mk (show Tab w2 w1.heap.size from ht)
  clear ht
  have hbw := below_then hb1 hb1.size hb2
  have HR2 := Aside0.mk (HR.out.below hbw)
  have HS2 := Aside0.mk (HS.out.below hbw)
  go_wp2_with (first
    | (at_builtin; refine OB.append w2.heap.size rfl (.tmp 25) (.tmp 26) 22 5 rfl Try.underlying22 info_u8 _ [] xs A c rfl rfl (OB.lit w2 _ _ [] (by simp) (Nat.le_refl _) (by simp)) (HR2.out.below (below_alloc (Below.refl _ _) _)) (below_alloc (Below.refl _ _) _) (by simp) (by simp; omega) ?_; intro v1 w3 hown1 hbel1 hgr1 hat1; rw [List.nil_append] at hown1)
    | (at_builtin; refine OB.append w2.heap.size rfl (.tmp 27) (.tmp 28) 22 5 rfl Try.underlying22 info_u8 _ xs ys B d rfl rfl hown1 (HS2.out.below hbel1) hbel1 hbel1.size (by omega) ?_; intro v2 w4 hown2 hbel2 hgr2 hat2)
    | fail)
  obtain ⟨V, cv, rfl, hv⟩ := hown2.reads
  have HV := Aside0.mk (show RB w4 V (xs ++ ys) from hv)
  have HT4 := Aside0.mk (HT.out.below hbel2)
  have HR4 := Aside0.mk (HR2.out.below hbel2)
  have HS4 := Aside0.mk (HS2.out.below hbel2)
  have hfin := below_then hbw hbw.size hbel2
  have hl : (xs ++ ys).length ≤ 600 := by simp; omega
  have hj0 := Aside0.mk (add_append 0 xs ys (by omega) HR.out.1)
  have hj1 := Aside0.mk (add_append s xs ys hs HR.out.1)
  have hja := add_lt 0 xs
  have hjb := add_lt s xs
  clear hown2 hown1 hv hat1 hat2 hgr1 hgr2
  generalize xs ++ ys = zs at HV hj0 hj1 hl ⊢
  refine (of_any _ _ _ zs _ HT4.out HV.out (by omega)).mono ?_
  rintro e w5 ⟨rfl, rfl⟩
  go_wp2_with fail
  refine (of_any _ _ _ _ _ HT4.out HR4.out (by omega)).mono ?_
  rintro e w5 ⟨rfl, rfl⟩
  go_wp2_with fail
  refine (add_any _ _ _ _ _ _ HT4.out hja HS4.out (by omega)).mono ?_
  rintro e w5 ⟨rfl, rfl⟩
  rw [hj0.out]
  go_wp2_with fail
  refine (add_any _ _ _ _ zs _ HT4.out hs HV.out (by omega)).mono ?_
  rintro e w5 ⟨rfl, rfl⟩
  go_wp2_with fail
  refine (add_any _ _ _ _ _ _ HT4.out hs HR4.out (by omega)).mono ?_
  rintro e w5 ⟨rfl, rfl⟩
  go_wp2_with fail
  refine (add_any _ _ _ _ _ _ HT4.out hjb HS4.out (by omega)).mono ?_
  rintro e w5 ⟨rfl, rfl⟩
  rw [hj1.out]
  go_wp2_with fail
  refine (add_any _ s 0 none [] _ HT4.out hs (RB.nil _) (by simp)).mono ?_
  rintro e w5 ⟨rfl, rfl⟩
  rw [add_nil s hs]
  go_wp2_with fail
  go_ret
  exact ⟨rfl, hfin⟩

theorem joins_walk (a0 : Option Addr) (len0 cap0 : Nat) (z0 : List Int) (a1 : Option Addr) (len1 cap1 : Nat) (z1 : List Int) (a2 : Int) (w : World) (w0 : IsRow .u8 w a0 len0 cap0 z0) (y0 : len0 * 1 ≤ 140737488351232)
    (w1 : IsRow .u8 w a1 len1 cap1 z1) (y1 : len1 * 1 ≤ 140737488351232) (w2 : (Lit.int .u32 a2).wf = true) :
    Calls Try.prog 4 #[.slice a0 len0 cap0, .slice a1 len1 cap1, .int .u32 a2] w fun e w' => e = .returned (.bool true) ∧ Below w.heap.size w w' := by
  obtain ⟨xs, rfl, hr, _⟩ := RB.of_row w0
  obtain ⟨ys, rfl, hr', _⟩ := RB.of_row w1
  have hs := u32_range w2
  obtain ⟨s, rfl⟩ := Int.eq_ofNat_of_zero_le hs.1
  by_cases h : 300 < xs.length ∨ 300 < ys.length
  · exact joins_long cap0 cap1 s a0 a1 _ _ w h (by omega) (by omega)
  · exact joins_short cap0 cap1 s a0 a1 xs ys w (by omega) hr hr' (by omega) (by omega)
end Go.Proofs.Ytegkpopkecemnaa.Crc
