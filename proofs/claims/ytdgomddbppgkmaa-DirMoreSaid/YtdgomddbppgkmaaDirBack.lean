/- Proved here: the law DirBack returns true for every input and changes nothing that was there. Conditions: none. -/
import Derived.Test.YtdgomddbppgkmaaDirPresent
import Derived.Test.YtdgomddbppgkmaaDirPuts
namespace Go.Proofs.Ytdgomddbppgkmaa.Dir
open Go.RowKit Go.Proofs.YtdgomddbppgkmaaW.PrintWords Go.Proofs.Ytdgomddbppgkmaa.CrcM Go.Proofs.Ytdgomddbppgkmaa.BitsM Go.Proofs.Ytdgomddbppgkmaa.Base Go.Proofs.Ytdgomddbppgkmaa.Bitw Go.Proofs.Ytdgomddbppgkmaa.DirM

theorem val_le (V : Nat) : ∀ n, val ((List.range n).map fun q => V / 2 ^ (8 * q) % 256) = V % 2 ^ (8 * n) := by
  intro n
  induction n with
  | zero => simp [CrcM.val, Nat.mod_one]
  | succ n ih =>
    rw [List.range_succ, List.map_append, val_append, ih, List.length_map, List.length_range]
    have e : 2 ^ (8 * (n + 1)) = 2 ^ (8 * n) * 256 := by rw [Nat.mul_succ, Nat.pow_add]
    rw [e, Nat.mod_mul]
    simp [CrcM.val]
theorem val_put32 (V : Nat) (h : V < 2 ^ 256) : val (put32 V) = V := (val_le V 32).trans (Nat.mod_eq_of_lt h)
theorem take_put (p : Nat → Bool) (h0 : p 0 = true) (more : List Nat) :
    takeE (put32 (sumL (pl p 256)) ++ more) = 0 ∧ takeL (put32 (sumL (pl p 256)) ++ more) = pl p 256 := by
  have hl : ¬ (put32 (sumL (pl p 256)) ++ more).length < 32 := by rw [List.length_append, put32_len]; omega
  have ht : (put32 (sumL (pl p 256)) ++ more).take 32 = put32 (sumL (pl p 256)) := List.take_left' (put32_len _)
  have ho : onesOf (put32 (sumL (pl p 256)) ++ more) = pl p 256 := by
    rw [onesOf, ht, val_put32 _ (sumL_lt p 256), ones_sum]
  have hh := (head_pl p 255).2 h0
  constructor
  · rw [takeE, if_neg hl, ho, if_pos hh]
  · rw [takeL, if_neg hl, ho, if_pos hh]
theorem mt_zero (bs : List Nat) (h : 0 < bs.length) : mt bs bs.length 0 = true := by
  simp only [mt, List.any_eq_true, List.mem_range]
  exact ⟨0, h, rfl⟩
theorem present_len (bs : List Nat) : (present bs).length ≤ 256 := by
  have := List.length_filter_le (mt bs bs.length) (List.range 256)
  rw [List.length_range] at this
  exact this

set_option maxRecDepth 100000 in
set_option maxHeartbeats 400000 in
theorem back_out (c d : Nat) (A B : Option Addr) (l m : Nat) (w : World) (h : l = 0 ∨ 100 < l ∨ 100 < m) :
    Calls Try.prog 10 #[.slice A l c, .slice B m d] w fun e w' => e = .returned (.bool true) ∧ Below w.heap.size w w' := by
  by_cases h1 : l = 0
  · subst h1
    go_enter Try.func10, Try.ntmps10
    go_wp2_with (go_at_call 18; refine (awake_any _).mono ?_; rintro e w1 ⟨rfl, hb1⟩)
    go_ret
    exact ⟨rfl, hb1⟩
  have b1 : ((l : Int) == 0) = false := by rw [beq_eq_false_iff_ne]; omega
  by_cases h2 : 100 < l
  · have d2 : decide ((100 : Int) < (l : Int)) = true := by simp; omega
    have d3 : decide (100 < l) = true := by simp; omega
    go_enter Try.func10, Try.ntmps10
    go_wp2_with (go_at_call 18; refine (awake_any _).mono ?_; rintro e w1 ⟨rfl, hb1⟩)
    go_ret
    exact ⟨rfl, hb1⟩
  have h3 : 100 < m := by omega
  have d2 : decide ((100 : Int) < (l : Int)) = false := by simp; omega
  have d3 : decide ((100 : Int) < (m : Int)) = true := by simp; omega
  clear h
  go_enter Try.func10, Try.ntmps10
  go_wp2_with (go_at_call 18; refine (awake_any _).mono ?_; rintro e w1 ⟨rfl, hb1⟩)
  go_ret
  exact ⟨rfl, hb1⟩
set_option maxRecDepth 100000 in
set_option maxHeartbeats 1000000 in
theorem back_in (c d : Nat) (A B : Option Addr) (bs ms : List Nat) (w : World) (hr : RB w A bs) (hm : RB w B ms) (h0 : 0 < bs.length) (h1 : bs.length ≤ 100) (h2 : ms.length ≤ 100) :
    Calls Try.prog 10 #[.slice A bs.length c, .slice B ms.length d] w fun e w' => e = .returned (.bool true) ∧ Below w.heap.size w w' := by
  have HR := Aside0.mk hr
  have HM := Aside0.mk hm
  have hok : okL (zl (present bs)) = true := ok_pl _ (mt_zero bs h0)
  have hpb : putB (zl (present bs)) = put32 (sumL (present bs)) := put_pl _ (mt_zero bs h0)
  have htp : takeE (put32 (sumL (present bs)) ++ ms) = 0 ∧ takeL (put32 (sumL (present bs)) ++ ms) = present bs := take_put _ (mt_zero bs h0) ms
  have hpl := present_len bs
  have HP := Aside0.mk (And.intro hok (And.intro hpb (And.intro htp hpl)))
  have b1 : ((bs.length : Int) == 0) = false := by rw [beq_eq_false_iff_ne]; omega
  have d2 : decide ((100 : Int) < (bs.length : Int)) = false := by simp; omega
  have d3 : decide ((100 : Int) < (ms.length : Int)) = false := by simp; omega
  clear hr hm hok hpb htp hpl
  go_enter Try.func10, Try.ntmps10
  go_wp2_with (go_at_call 18; refine (awake_any _).mono ?_; rintro e w1 ⟨rfl, hb1⟩)
  refine (present_any w1 A c bs (HR.out.below hb1) (by omega)).mono ?_
  rintro e w2 ⟨v, rfl, ho, hb2⟩
  have HB2 := Aside0.mk (below_then hb1 hb1.size hb2)
  generalize present bs = L at *
  obtain ⟨Av, cv, rfl, q⟩ := NI.reads ho
  have hp := dput_any w2 Av cv (zl L) q (by rw [zl_len]; have := HP.out.2.2.2; omega)
  rw [zl_len, HP.out.1, HP.out.2.1] at hp
  have HPUT := Aside0.mk hp
  have Q := Aside0.mk q
  clear ho q hb2 hb1 hp
  go_wp2_with fail
  refine HPUT.out.mono ?_
  rintro e w3 ⟨v3, rfl, ho3, hb3⟩
  obtain ⟨g, c3, rfl, hc3, q3⟩ := ob_form2 ho3 (n := 32) (put32_len _) (by omega)
  have HB3 := Aside0.mk (below_then HB2.out HB2.out.size hb3)
  have Q3 := Aside0.mk q3
  have HQ := Aside0.mk (Q.out.below hb3)
  generalize hD : put32 (sumL L) = D at *
  have hD32 : D.length = 32 := by rw [← hD]; exact put32_len _
  have HD := Aside0.mk hD32
  clear ho3 hb3 q3 hD hD32
  go_wp2_with (at_builtin; first | (refine OB.append (w0 := w3) w3.heap.size rfl (.tmp 34) (.tmp 35) 22 5 rfl Try.underlying22 info_u8 _ [] D (some ⟨g, 0, none⟩) c3 rfl (by rw [HD.out]; rfl) (OB.lit w3 _ _ [] (by simp) (Nat.le_refl _) (by simp)) (Q3.out.below (below_alloc (Below.refl _ _) _)) (below_alloc (Below.refl _ _) _) (by simp) (by simp [HD.out]) ?_; intro v1 w4 hown1 hbel1 hgr1 hat1; rw [List.nil_append] at hown1; have HO4 := Aside0.mk (And.intro hown1 hbel1); clear hown1 hbel1 hgr1 hat1) | (refine OB.append (w0 := w3) w3.heap.size rfl (.tmp 36) (.tmp 37) 22 5 rfl Try.underlying22 info_u8 _ D ms B d rfl rfl HO4.out.1 (HM.out.below (below_then HB3.out HB3.out.size HO4.out.2)) HO4.out.2 HO4.out.2.size (by rw [HD.out]; omega) ?_; intro v2 w5 hown2 hbel2 hgr2 hat2; have HO5 := Aside0.mk (And.intro hown2 hbel2); clear hown2 hbel2 hgr2 hat2))
  have hln : (D ++ ms).length = 32 + ms.length := by rw [List.length_append, HD.out]
  obtain ⟨g2, c2, rfl, hc2, q5⟩ := ob_form2 HO5.out.1 hln (by omega)
  have htk := take_any w5 (some ⟨g2, 0, none⟩) c2 (D ++ ms) q5 (by rw [hln]; exact hc2)
  rw [HP.out.2.2.1.1, HP.out.2.2.1.2, hln] at htk
  refine htk.mono ?_
  clear htk q5
  rintro e w6 ⟨v6, rfl, ho6, hb6⟩
  have HB6 := Aside0.mk (below_then (below_then HB3.out HB3.out.size HO5.out.2) (Nat.le_trans HB3.out.size HO5.out.2.size) hb6)
  have HQ6 := Aside0.mk ((HQ.out.below HO5.out.2).below hb6)
  obtain ⟨A6, c6, rfl, q6⟩ := NI.reads (show NI w6 _ v6 L from ho6)
  have hi := ints_any w6 Av A6 cv c6 (zl L) (zl L) HQ6.out q6 (by rw [zl_len]; have := HP.out.2.2.2; omega)
  rw [zl_len, beq_self_eq_true] at hi
  have HI := Aside0.mk hi
  clear ho6 hb6 q6 hi
  go_wp2_with fail
  refine HI.out.mono ?_
  rintro e w7 ⟨rfl, hb7⟩
  have hb7' := below_then HB6.out HB6.out.size hb7
  clear hb7
  go_wp2_with fail
  go_ret
  exact ⟨rfl, hb7'⟩
theorem back_walk (a0 : Option Addr) (len0 cap0 : Nat) (z0 : List Int) (a1 : Option Addr) (len1 cap1 : Nat) (z1 : List Int) (w : World) (w0 : IsRow .u8 w a0 len0 cap0 z0) (_y0 : len0 * 1 ≤ 140737488351232) (w1 : IsRow .u8 w a1 len1 cap1 z1) (_y1 : len1 * 1 ≤ 140737488351232) :
    Calls Try.prog 10 #[.slice a0 len0 cap0, .slice a1 len1 cap1] w fun e w' => e = .returned (.bool true) ∧ Below w.heap.size w w' := by
  obtain ⟨bs, rfl, hr, _⟩ := RB.of_row w0
  obtain ⟨ms, rfl, hm, _⟩ := RB.of_row w1
  by_cases h : bs.length = 0 ∨ 100 < bs.length ∨ 100 < ms.length
  · exact back_out cap0 cap1 a0 a1 _ _ w h
  · exact back_in cap0 cap1 a0 a1 bs ms w hr hm (by omega) (by omega) (by omega)
end Go.Proofs.Ytdgomddbppgkmaa.Dir
