/- Proved here: the law BitrOwn returns true for every input and changes nothing that was there. Conditions: none. -/
import Derived.Test.YtohgkdiagekmbaaBitrLaws
namespace Go.Proofs.Ytohgkdiagekmbaa.Bitr
open Go.RowKit Go.Proofs.YtohgkdiagekmbaaW.PrintWords Go.Proofs.Ytohgkdiagekmbaa.CrcM Go.Proofs.Ytohgkdiagekmbaa.BitsM Go.Proofs.Ytohgkdiagekmbaa.Base Go.Proofs.Ytohgkdiagekmbaa.Bitw

set_option maxRecDepth 100000 in
set_option maxHeartbeats 400000 in
theorem own_long (c v n : Nat) (A : Option Addr) (l : Nat) (w : World) (hn : 200 < l) :
    Calls Try.prog 5 #[.slice A l c, .int .u8 (v : Int), .int .u8 (n : Int)] w fun e w' => e = .returned (.bool true) ∧ Below w.heap.size w w' := by
  go_enter Try.func5, Try.ntmps5
  go_wp2_with (go_at_call 13; refine (awake2_any _).mono ?_; rintro e w1 ⟨rfl, hb1⟩)
  go_ret
  exact ⟨rfl, hb1⟩
set_option maxRecDepth 100000 in
set_option maxHeartbeats 1000000 in
theorem own_no (c v n K : Nat) (A : Option Addr) (bs : List Nat) (w : World) (hr : RB w A bs) (hn : bs.length ≤ 200) (hm : ¬ Marked bs) (hv : v < 256) (_hn8 : n < 256) (hK : (n : Int) % 25 = (K : Int)) :
    Calls Try.prog 5 #[.slice A bs.length c, .int .u8 (v : Int), .int .u8 (n : Int)] w fun e w' => e = .returned (.bool true) ∧ Below w.heap.size w w' := by
  have HR := Aside0.mk hr
  have HM := Aside0.mk hm
  have HK := Aside0.mk hK
  clear hr hm hK
  go_enter Try.func5, Try.ntmps5
  go_wp2_with (first
    | (go_at_call 13; refine (awake2_any _).mono ?_; rintro e w1 ⟨rfl, hb1⟩)
    | (at_builtin; refine OB.append (w0 := w1) w1.heap.size rfl (.tmp 23) (.tmp 24) 22 5 rfl Try.underlying22 info_u8 _ [] bs A c rfl rfl (OB.lit w1 _ _ [] (by simp) (Nat.le_refl _) (by simp)) ((HR.out.below hb1).below (below_alloc (Below.refl _ _) _)) (below_alloc (Below.refl _ _) _) (by simp) (by simp; omega) ?_; intro v1 w2 hown1 hbel1 hgr1 hat1; rw [List.nil_append] at hown1))
  obtain ⟨Ac, cc, rfl, hq⟩ := hown1.reads
  have hb2 := below_then hb1 hb1.size hbel1
  have OC := Aside0.mk hown1
  have OClt := Aside0.mk hown1.lt
  have QC := Aside0.mk hq
  have hbase : w.heap.size ≤ w1.heap.size := hb1.size
  clear hown1 hq hgr1 hat1 hbel1
  refine (new_no _ _ _ bs (HR.out.below hb2) (by omega) HM.out).mono ?_
  rintro e w3 ⟨rfl, rfl⟩
  go_wp2_with fail
  refine (new_no _ _ _ bs QC.out (by omega) HM.out).mono ?_
  rintro e w3 ⟨rfl, rfl⟩
  have hb4' := hb2
  have OC4 := OC
  go_wp2_with fail
  go_loopw [13] (fun i wr => ∃ (k : Nat) (cs : List Nat), k ≤ bs.length ∧ i = .int .i64 k ∧ Aside0 (cs.length = bs.length) ∧ Aside0 (OB wr w1.heap.size 5 (.slice Ac bs.length cc) cs) ∧ Below w.heap.size w wr) (fun i _ => bs.length - (intOf i).toNat)
  case atStart => exact ⟨0, bs, by omega, rfl, ⟨rfl⟩, OC4, hb4'⟩
  case round =>
    obtain ⟨k, cs, hk, rfl, HL, O1, hbr⟩ := hrel
    by_cases hlt : k < bs.length
    · obtain ⟨g1, p1, he, hg1, hg1'⟩ := O1.out.form' HL.out (by omega)
      injection he with he1 he2 he3
      subst he1 he3
      obtain ⟨hx1, hx2⟩ := O1.out.at' HL.out k hlt
      have hc8 : cs.getD k 0 < 256 := by
        have := HL.out
        rw [List.getD_eq_getElem?_getD, List.getElem?_eq_getElem (by omega)]
        exact O1.out.1 _ (List.getElem_mem _)
      have hbx : bits .xor .u8 ((cs.getD k 0 : Nat) : Int) (v : Int) = ((cs.getD k 0 ^^^ v : Nat) : Int) := u8_xor_nat _ v hc8 hv
      have hy8 : cs.getD k 0 ^^^ v < 256 := Nat.xor_lt_two_pow (n := 8) hc8 hv
      have P1 := O1.out.store' HL.out k _ hy8
      have R1 := Aside0.mk P1.1
      have R3 := Aside0.mk (hbr.setCell (p := ⟨g1, k, none⟩) (Nat.le_trans hbase hg1) (.int .u8 ((cs.getD k 0 ^^^ v : Nat) : Int)))
      have RL := Aside0.mk (show (cs.set k (cs.getD k 0 ^^^ v)).length = bs.length by rw [List.length_set]; exact HL.out)
      clear P1 O1 hbr
      generalize cs.getD k 0 ^^^ v = y at *
      generalize cs.getD k 0 = x0 at *
      go_wp2_with fail
      go_roundw
      case rel => exact ⟨k + 1, _, by omega, by go_num, RL, R1, R3.out⟩
      case measure => simp [intOf]; omega
    · obtain rfl : k = bs.length := by omega
      go_wp2_with fail
      go_ret
      exact ⟨rfl, hbr⟩
set_option maxRecDepth 100000 in
set_option maxHeartbeats 1000000 in
theorem own_yes (c v n K : Nat) (A : Option Addr) (bs : List Nat) (w : World) (hr : RB w A bs) (hn : bs.length ≤ 200) (hm : Marked bs) (hv : v < 256) (_hn8 : n < 256) (hK : (n : Int) % 25 = (K : Int)) :
    Calls Try.prog 5 #[.slice A bs.length c, .int .u8 (v : Int), .int .u8 (n : Int)] w fun e w' => e = .returned (.bool true) ∧ Below w.heap.size w w' := by
  have HR := Aside0.mk hr
  have HM := Aside0.mk hm
  have HK := Aside0.mk hK
  clear hr hm hK
  go_enter Try.func5, Try.ntmps5
  go_wp2_with (first
    | (go_at_call 13; refine (awake2_any _).mono ?_; rintro e w1 ⟨rfl, hb1⟩)
    | (at_builtin; refine OB.append (w0 := w1) w1.heap.size rfl (.tmp 23) (.tmp 24) 22 5 rfl Try.underlying22 info_u8 _ [] bs A c rfl rfl (OB.lit w1 _ _ [] (by simp) (Nat.le_refl _) (by simp)) ((HR.out.below hb1).below (below_alloc (Below.refl _ _) _)) (below_alloc (Below.refl _ _) _) (by simp) (by simp; omega) ?_; intro v1 w2 hown1 hbel1 hgr1 hat1; rw [List.nil_append] at hown1))
  obtain ⟨Ac, cc, rfl, hq⟩ := hown1.reads
  have hb2 := below_then hb1 hb1.size hbel1
  have OC := Aside0.mk hown1
  have OClt := Aside0.mk hown1.lt
  have QC := Aside0.mk hq
  have hbase : w.heap.size ≤ w1.heap.size := hb1.size
  clear hown1 hq hgr1 hat1 hbel1
  refine (new_yes _ _ _ bs (HR.out.below hb2) (by omega) HM.out).mono ?_
  rintro e w3 ⟨gx, vx, rfl, hx3, hb3⟩
  have hb3' := below_then hb2 hb2.size hb3
  have X3 := Aside0.mk hx3
  have OC3 := Aside0.mk (OC.out.below hb3)
  have QC3 := Aside0.mk (QC.out.below hb3)
  have h23 := hb3.size
  clear hx3 hb3
  go_wp2_with fail
  refine (new_yes _ _ _ bs QC3.out (by omega) HM.out).mono ?_
  rintro e w4 ⟨gy, vy, rfl, hy4, hb4⟩
  have hb4' := below_then hb3' hb3'.size hb4
  have Y4 := Aside0.mk hy4
  have X4 := Aside0.mk (X3.out.below hb4)
  have OC4 := Aside0.mk (OC3.out.below hb4)
  have h34 := hb4.size
  have h02 := hb2.size
  have hfx : ∀ i, i = gx → w.heap.size ≤ i := fun i hi => by have := X3.out.base; omega
  have hfy : ∀ i, i = gy → w.heap.size ≤ i := fun i hi => by have := hy4.base; omega
  clear hy4 hb4 QC3 OC3 QC
  generalize hLL : lft bs = L at *
  clear hLL
  go_wp2_with fail
  go_loopw [13] (fun i wr => ∃ (k : Nat) (cs : List Nat), k ≤ bs.length ∧ i = .int .i64 k ∧ Aside0 (cs.length = bs.length) ∧ Aside0 (OB wr w1.heap.size 5 (.slice Ac bs.length cc) cs) ∧ Aside0 (Rd wr w2.heap.size gx vx bs L) ∧ Aside0 (Rd wr w3.heap.size gy vy bs L) ∧ Below w.heap.size w wr) (fun i _ => bs.length - (intOf i).toNat)
  case atStart => exact ⟨0, bs, by omega, rfl, ⟨rfl⟩, OC4, X4, Y4, hb4'⟩
  case round =>
    obtain ⟨k, cs, hk, rfl, HL, O1, X5, Y5, hbr⟩ := hrel
    by_cases hlt : k < bs.length
    · obtain ⟨g1, p1, he, hg1, hg1'⟩ := O1.out.form' HL.out (by omega)
      injection he with he1 he2 he3
      subst he1 he3
      obtain ⟨hx1, hx2⟩ := O1.out.at' HL.out k hlt
      have hc8 : cs.getD k 0 < 256 := by
        have := HL.out
        rw [List.getD_eq_getElem?_getD, List.getElem?_eq_getElem (by omega)]
        exact O1.out.1 _ (List.getElem_mem _)
      have hbx : bits .xor .u8 ((cs.getD k 0 : Nat) : Int) (v : Int) = ((cs.getD k 0 ^^^ v : Nat) : Int) := u8_xor_nat _ v hc8 hv
      have hy8 : cs.getD k 0 ^^^ v < 256 := Nat.xor_lt_two_pow (n := 8) hc8 hv
      have P1 := O1.out.store' HL.out k _ hy8
      have R1 := Aside0.mk P1.1
      have R3 := Aside0.mk (hbr.setCell (p := ⟨g1, k, none⟩) (Nat.le_trans hbase hg1) (.int .u8 ((cs.getD k 0 ^^^ v : Nat) : Int)))
      have RL := Aside0.mk (show (cs.set k (cs.getD k 0 ^^^ v)).length = bs.length by rw [List.length_set]; exact HL.out)
      have hq1 : g1 < w2.heap.size := OClt.out g1 rfl
      have KK := (Keep.refl (fun i => i = g1) wr).setCell ⟨g1, k, none⟩ (fun _ => rfl) (.int .u8 ((cs.getD k 0 ^^^ v : Nat) : Int))
      have RX := Aside0.mk (X5.out.keep KK (fun e => by have := X5.out.base; have e' : gx = g1 := e; omega) (fun q hq e => by have := X5.out.base_row q hq; have e' : q = g1 := e; omega))
      have RY := Aside0.mk (Y5.out.keep KK (fun e => by have := Y5.out.base; have e' : gy = g1 := e; omega) (fun q hq e => by have := Y5.out.base_row q hq; have e' : q = g1 := e; omega))
      clear KK X5 Y5
      clear P1 O1 hbr
      generalize cs.getD k 0 ^^^ v = y at *
      generalize cs.getD k 0 = x0 at *
      go_wp2_with fail
      go_roundw
      case rel => exact ⟨k + 1, _, by omega, by go_num, RL, R1, RX, RY, R3.out⟩
      case measure => simp [intOf]; omega
    · obtain rfl : k = bs.length := by omega
      go_wp2_with fail
      rw [HK.out]
      refine (take_gen _ _ _ _ (K : Int) _ _ X5.out (by omega)).mono ?_
      rintro e w5 ⟨rfl, hx5, hk5⟩
      have hb5 := hbr.trans (hk5.below hbr.size hfx)
      have Y6 := Aside0.mk (Rd.apart X3.out Y4.out (Nat.le_refl _) Y5.out hk5)
      have X6 := Aside0.mk hx5
      clear hx5 hk5
      obtain ⟨T, hT⟩ : ∃ T, tv (val bs) L (K : Int) = T := ⟨_, rfl⟩
      obtain ⟨CN, hC⟩ : ∃ CN, can L (K : Int) = CN := ⟨_, rfl⟩
      obtain ⟨L2, hL2⟩ : ∃ L2, tl L (K : Int) = L2 := ⟨_, rfl⟩
      have HT := Aside0.mk hT
      have HC := Aside0.mk hC
      have HL2 := Aside0.mk hL2
      rw [hT, hC]
      rw [hL2] at X6
      clear hT hC hL2
      go_wp2_with fail
      rw [HK.out]
      refine (take_gen _ _ _ _ (K : Int) _ _ Y6.out (by omega)).mono ?_
      rintro e w6 ⟨rfl, hy6, hk6⟩
      have hb6 := hb5.trans (hk6.below hb5.size hfy)
      have X7 := Aside0.mk (Rd.apart' X3.out Y4.out (Nat.le_refl _) X6.out hk6)
      have Y7 := Aside0.mk hy6
      have e1 := HT.out
      have e2 := HC.out
      have e3 := HL2.out
      rw [e1, e2]
      rw [e3] at Y7
      clear hy6 hk6 e1 e2 e3
      go_wp2_with fail
      refine (left_any _ _ _ _ _ _ X7.out).mono ?_
      rintro e w7 ⟨rfl, rfl⟩
      go_wp2_with fail
      refine (left_any _ _ _ _ _ _ Y7.out).mono ?_
      rintro e w7 ⟨rfl, rfl⟩
      cases CN
      · go_wp2_with fail
        go_ret
        exact ⟨rfl, hb6⟩
      · go_wp2_with fail
        go_ret
        exact ⟨rfl, hb6⟩

theorem own_walk (a0 : Option Addr) (len0 cap0 : Nat) (z0 : List Int) (a1 a2 : Int) (w : World) (w0 : IsRow .u8 w a0 len0 cap0 z0) (_y0 : len0 * 1 ≤ 140737488351232) (w1 : (Lit.int .u8 a1).wf = true) (w2 : (Lit.int .u8 a2).wf = true) :
    Calls Try.prog 5 #[.slice a0 len0 cap0, .int .u8 a1, .int .u8 a2] w fun e w' => e = .returned (.bool true) ∧ Below w.heap.size w w' := by
  obtain ⟨bs, rfl, hr, _⟩ := RB.of_row w0
  have h1 := u8_range w1
  have h2 := u8_range w2
  obtain ⟨v, rfl⟩ := Int.eq_ofNat_of_zero_le h1.1
  obtain ⟨n, rfl⟩ := Int.eq_ofNat_of_zero_le h2.1
  rcases Nat.lt_or_ge 200 bs.length with h | h
  · exact own_long cap0 v n a0 _ w h
  · by_cases hm : Marked bs
    · exact own_yes cap0 v n (n % 25) a0 bs w hr h hm (by omega) (by omega) (by omega)
    · exact own_no cap0 v n (n % 25) a0 bs w hr h hm (by omega) (by omega) (by omega)
end Go.Proofs.Ytohgkdiagekmbaa.Bitr
