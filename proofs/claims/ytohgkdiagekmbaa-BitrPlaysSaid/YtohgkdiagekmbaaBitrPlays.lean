/- Proved here: the law BitrPlays returns true for every input and changes nothing that was there. Conditions: none. -/
import Derived.Test.YtohgkdiagekmbaaBitrLists
namespace Go.Proofs.Ytohgkdiagekmbaa.Bitr
open Go.RowKit Go.Proofs.YtohgkdiagekmbaaW.PrintWords Go.Proofs.Ytohgkdiagekmbaa.CrcM Go.Proofs.Ytohgkdiagekmbaa.BitsM Go.Proofs.Ytohgkdiagekmbaa.Base Go.Proofs.Ytohgkdiagekmbaa.Bitw

def RI (w : World) (A : Option Addr) (ns : List Int) : Prop := ReadsInt w .i64 A ns.length ns
theorem RI.at_ {w : World} {A : Option Addr} {ns : List Int} (h : RI w A ns) (k : Nat) (hk : k < ns.length) : ∃ ad, A = some ad ∧ w.cell? (ad.add k) = some (.int .i64 (ns.getD k 0)) := by
  obtain ⟨ad, e, hc⟩ := h.2.2 (by omega)
  exact ⟨ad, e, hc k hk⟩
theorem RI.below {w w1 : World} {A : Option Addr} {ns : List Int} (h : RI w A ns) (hb : Below w.heap.size w w1) : RI w1 A ns := ReadsInt.below h hb

set_option maxRecDepth 100000 in
set_option maxHeartbeats 400000 in
theorem plays_long (c c' : Nat) (A A' : Option Addr) (l l' : Nat) (w : World) (hn : 200 < l ∨ 60 < l') :
    Calls Try.prog 3 #[.slice A l c, .slice A' l' c'] w fun e w' => e = .returned (.bool true) ∧ Below w.heap.size w w' := by
  by_cases h1 : 200 < l
  · go_enter Try.func3, Try.ntmps3
    go_wp2_with (go_at_call 13; refine (awake2_any _).mono ?_; rintro e w1 ⟨rfl, hb1⟩)
    go_ret
    exact ⟨rfl, hb1⟩
  · have h2 : 60 < l' := by omega
    clear hn
    go_enter Try.func3, Try.ntmps3
    go_wp2_with (go_at_call 13; refine (awake2_any _).mono ?_; rintro e w1 ⟨rfl, hb1⟩)
    go_ret
    exact ⟨rfl, hb1⟩
set_option maxRecDepth 100000 in
set_option maxHeartbeats 400000 in
theorem plays_no (c c' : Nat) (A A' : Option Addr) (bs : List Nat) (l' : Nat) (w : World) (hr : RB w A bs) (hn : bs.length ≤ 200) (hm : ¬ Marked bs) (hn' : l' ≤ 60) :
    Calls Try.prog 3 #[.slice A bs.length c, .slice A' l' c'] w fun e w' => e = .returned (.bool true) ∧ Below w.heap.size w w' := by
  have HR := Aside0.mk hr
  have HM := Aside0.mk hm
  clear hr hm
  go_enter Try.func3, Try.ntmps3
  go_wp2_with (go_at_call 13; refine (awake2_any _).mono ?_; rintro e w1 ⟨rfl, hb1⟩)
  refine (new_no _ _ _ bs (HR.out.below hb1) (by omega) HM.out).mono ?_
  rintro e w2 ⟨rfl, rfl⟩
  go_wp2_with fail
  refine (refopen_no _ _ _ bs (HR.out.below hb1) (by omega) HM.out).mono ?_
  rintro e w2 ⟨rfl, rfl⟩
  go_wp2_with fail
  go_ret
  exact ⟨rfl, hb1⟩
set_option maxRecDepth 100000 in
set_option maxHeartbeats 1000000 in
theorem plays_yes (c c' : Nat) (A A' : Option Addr) (bs : List Nat) (ns : List Int) (w : World) (hr : RB w A bs) (hr' : RI w A' ns) (hn : bs.length ≤ 200) (hm : Marked bs) (hn' : ns.length ≤ 60) :
    Calls Try.prog 3 #[.slice A bs.length c, .slice A' ns.length c'] w fun e w' => e = .returned (.bool true) ∧ Below w.heap.size w w' := by
  have HR := Aside0.mk hr
  have HR' := Aside0.mk hr'
  have HM := Aside0.mk hm
  clear hr hr' hm
  go_enter Try.func3, Try.ntmps3
  go_wp2_with (go_at_call 13; refine (awake2_any _).mono ?_; rintro e w1 ⟨rfl, hb1⟩)
  refine (new_yes _ _ _ bs (HR.out.below hb1) (by omega) HM.out).mono ?_
  rintro e w2 ⟨gx, vx, rfl, hx2, hb2⟩
  have hb2' := below_then hb1 hb1.size hb2
  have X2 := Aside0.mk hx2
  have hgx : gx < w2.heap.size := hx2.lt
  clear hx2
  go_wp2_with fail
  refine (refopen_yes _ _ _ bs (HR.out.below hb2') (by omega) HM.out).mono ?_
  rintro e w3 ⟨g, cap, rfl, ho, hb3⟩
  have hb3' := below_then hb2' hb2'.size hb3
  have X3 := Aside0.mk (X2.out.below hb3)
  have O3 := Aside0.mk ho
  have hfx : ∀ i, i = gx → w.heap.size ≤ i := fun i hi => by have := X2.out.base; have := hb1.size; omega
  have hL : lft bs ≤ 1600 := by have := X2.out.llt; omega
  clear ho
  generalize lft bs = L0 at *
  go_wp2_with fail
  go_loopw [8, 10] (fun v i wr => ∃ k L : Nat, k ≤ ns.length ∧ L ≤ 1600 ∧ i = .int .i64 k ∧ v = .slice (some ⟨g, 0, none⟩) L cap ∧ Aside0 (Rd wr w1.heap.size gx vx bs L) ∧ Aside0 (OL wr w2.heap.size (.slice (some ⟨g, 0, none⟩) L cap) (bitsOf (val bs) L)) ∧ Below w.heap.size w wr) (fun _ i _ => ns.length - (intOf i).toNat)
  case atStart => exact ⟨0, L0, by omega, hL, rfl, rfl, X3, O3, hb3'⟩
  case round =>
    obtain ⟨k, L, hk, hLL, rfl, rfl, HX, HO, hbr⟩ := hrel
    by_cases hlt : k < ns.length
    · obtain ⟨ad, rfl, hc⟩ := (HR'.out.below hbr).at_ k hlt
      obtain ⟨n, hN⟩ : ∃ n, ns.getD k 0 = n := ⟨_, rfl⟩
      have HN := Aside0.mk hN
      rw [hN] at hc
      clear hN
      go_wp2_with fail
      refine (take_gen _ _ _ _ n _ _ HX.out (by omega)).mono ?_
      rintro e w4 ⟨rfl, hx4, hk4⟩
      have hb4 := hbr.trans (hk4.below hbr.size hfx)
      have O4 := Aside0.mk (HO.out.keep hk4 (fun q hq e => by have := HO.out.base q hq; have e' : q = gx := e; omega))
      have X4 := Aside0.mk hx4
      have hc4 : w4.cell? (ad.add k) = some (.int .i64 n) := by
        obtain ⟨ad', e, h⟩ := (HR'.out.below hb4).at_ k hlt
        injection e with e
        rw [e, h, HN.out]
      clear hx4 hk4 hc
      have htl := tl_le L n
      go_wp2_with fail
      refine (reftake_gen w4 _ g cap L (val bs) n O4.out (by omega)).mono ?_
      rintro e w5 ⟨rfl, ho5, hb5⟩
      have hb5' := below_then hb4 hb4.size hb5
      have O5 := Aside0.mk ho5
      have X5 := Aside0.mk (X4.out.below hb5)
      clear ho5 hb5
      have htv := tv_lt (val bs) L n
      generalize tv (val bs) L n = T at *
      generalize can L n = CN at *
      generalize tl L n = L2 at *
      have hL2 : L2 ≤ 1600 := by omega
      cases CN
      · go_wp2_with fail
        refine (left_any _ _ _ _ _ _ X5.out).mono ?_
        rintro e w6 ⟨rfl, rfl⟩
        go_wp2_with fail
        go_roundw
        case rel => exact ⟨k + 1, L2, by omega, hL2, by go_num, rfl, X5, O5, hb5'⟩
        case measure => simp [intOf]; omega
      · go_wp2_with fail
        refine (left_any _ _ _ _ _ _ X5.out).mono ?_
        rintro e w6 ⟨rfl, rfl⟩
        go_wp2_with fail
        go_roundw
        case rel => exact ⟨k + 1, L2, by omega, hL2, by go_num, rfl, X5, O5, hb5'⟩
        case measure => simp [intOf]; omega
    · obtain rfl : k = ns.length := by omega
      by_cases h0 : 0 < ns.length
      · go_wp2_with fail
        go_ret
        exact ⟨rfl, hbr⟩
      · go_wp2_with fail
        refine (left_any _ _ _ _ _ _ HX.out).mono ?_
        rintro e w5 ⟨rfl, rfl⟩
        go_wp2_with fail
        go_ret
        exact ⟨rfl, hbr⟩

theorem plays_walk (a0 : Option Addr) (len0 cap0 : Nat) (z0 : List Int) (a1 : Option Addr) (len1 cap1 : Nat) (z1 : List Int) (w : World) (w0 : IsRow .u8 w a0 len0 cap0 z0) (_y0 : len0 * 1 ≤ 140737488351232)
    (w1 : IsRow .i64 w a1 len1 cap1 z1) (_y1 : len1 * 8 ≤ 140737488351232) :
    Calls Try.prog 3 #[.slice a0 len0 cap0, .slice a1 len1 cap1] w fun e w' => e = .returned (.bool true) ∧ Below w.heap.size w w' := by
  obtain ⟨bs, rfl, hr, _⟩ := RB.of_row w0
  obtain ⟨ns, rfl, hr', _⟩ := ReadsInt.ofRowC w1
  by_cases h : 200 < bs.length ∨ 60 < ns.length
  · exact plays_long cap0 cap1 a0 a1 _ _ w h
  · by_cases hm : Marked bs
    · exact plays_yes cap0 cap1 a0 a1 bs ns w hr hr' (by omega) hm (by omega)
    · exact plays_no cap0 cap1 a0 a1 bs _ w hr (by omega) hm (by omega)
end Go.Proofs.Ytohgkdiagekmbaa.Bitr
