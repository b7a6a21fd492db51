/- Proved here: the law BitwPlays returns true for every input and changes nothing that was there. Conditions: none. -/
import Derived.Test.YtohgkdiagekmbaaBitsLists
namespace Go.Proofs.Ytohgkdiagekmbaa.Bitw
open Go.RowKit Go.Proofs.YtohgkdiagekmbaaW.PrintWords Go.Proofs.Ytohgkdiagekmbaa.CrcM Go.Proofs.Ytohgkdiagekmbaa.BitsM Go.Proofs.Ytohgkdiagekmbaa.Base

theorem ol_apart {w : World} {B B' g : Nat} {v u : Value} {l : List Bool} {bs : List Nat} {m : Nat} (h : OL w B v l) (hw : Wr w B' g u bs m) : ∀ k, v.ownBlock = some k → ¬ foot g u k := by
  rintro k hk (e | e)
  · subst e
    exact own_ne h hw.blk (by decide) hk.symm
  · rcases own_type_ne h hw.row.2 (by decide) with hn | hn
    · rw [hk] at hn; cases hn
    · exact hn (hk.trans e)

set_option maxRecDepth 100000 in
set_option maxHeartbeats 400000 in
theorem plays_long (c : Nat) (A : Option Addr) (l : Nat) (w : World) (hn : 60 < l) :
    Calls Try.prog 6 #[.slice A l c] w fun e w' => e = .returned (.bool true) ∧ Below w.heap.size w w' := by
  go_enter Try.func6, Try.ntmps6
  go_wp2_with (go_at_call 19; refine (awake_any _).mono ?_; rintro e w1 ⟨rfl, hb1⟩)
  go_ret
  exact ⟨rfl, hb1⟩

set_option maxRecDepth 100000 in
set_option maxHeartbeats 1000000 in
theorem plays_short (c : Nat) (A : Option Addr) (ps : List (Nat × Int)) (w : World) (hr : RP w A ps) (hn : ps.length ≤ 60) :
    Calls Try.prog 6 #[.slice A ps.length c] w fun e w' => e = .returned (.bool true) ∧ Below w.heap.size w w' := by
  have HR := Aside0.mk hr
  clear hr
  go_enter Try.func6, Try.ntmps6
  go_wp2_with (go_at_call 19; refine (awake_any _).mono ?_; rintro e w1 ⟨rfl, hb1⟩)
  refine (new_any w1 w.heap.size hb1.size).mono ?_
  rintro e w2 ⟨rfl, hx2, hb2⟩
  have hb2' := below_then hb1 hb1.size hb2
  have X2 := Aside0.mk hx2
  clear hx2 hb1 hb2
  generalize w1.heap.size = gx at *
  go_wp2_with fail
  go_loopw [5, 6] (fun vb i wr => ∃ k : Nat, k ≤ ps.length ∧ i = .int .i64 k ∧ ∃ (v : Value) (bs : List Nat) (m : Nat) (l : List Bool), m ≤ 24 * k ∧ Aside0 (Wr wr w.heap.size gx v bs m) ∧ Aside0 (OL wr w.heap.size vb l) ∧ Aside0 (l.length = m) ∧ Aside0 (numL l = val bs) ∧ Below w.heap.size w wr) (fun _ i _ => ps.length - (intOf i).toNat)
  case atStart => exact ⟨0, by omega, rfl, _, [], 0, [], by omega, X2, ⟨OL.nil _ _⟩, ⟨rfl⟩, ⟨rfl⟩, hb2'⟩
  case round =>
    obtain ⟨k, hk, rfl, v, bs, m, l, hmk, HW, HO, HL, HV, hbr⟩ := hrel
    by_cases hlt : k < ps.length
    · obtain ⟨ad, rfl, hw0, hw1⟩ := HR.out.at_ k hlt
      have hq0 := World.block_lt_of_cell? w _ hw0
      have hc0 := pw_cell_below hbr hw0
      have hc1 := pw_cell_below hbr hw1
      clear hw0 hw1
      obtain ⟨hx, hwf⟩ := HR.out.get k hlt
      generalize ps.getD k (0, 0) = p at *
      obtain ⟨x, n⟩ := p
      dsimp only at hc0 hc1 hx hwf
      have hi := i64_range hwf
      by_cases hf : 0 ≤ n ∧ n ≤ 24
      · obtain ⟨N, rfl⟩ := Int.eq_ofNat_of_zero_le hf.1
        obtain ⟨hf1, hf2⟩ := hf
        go_wp2_with fail
        go_region_held3 (fun w' => w'.cell? (ad.add (k * 2)) = some (.int .u32 (x : Int)) ∧ w'.cell? ⟨(ad.add (k * 2)).block, (ad.add (k * 2)).off + 1, none⟩ = some (.int .i64 (N : Int))) (go_keep)
          (first | (go_at_call 21; refine (put_any _ w.heap.size gx m x N v bs ?_ ?_ hx ?_).mono ?_; (exact HW.out.drew); omega; omega; rintro e w6 ⟨rfl, v6, bs6, hw6, hv6, hk6, hn6⟩; have hd := hk6.below (B := w.heap.size) (by exact hbr.size) (by exact HW.out.foot_base); have hd0 := below_cell_drew hd hq0 hc0; have hd1 := below_cell_drew (p := ⟨(ad.add (k * 2)).block, (ad.add (k * 2)).off + 1, none⟩) hd hq0 hc1))
        have X6 := Aside0.mk hw6
        have O6 := Aside0.mk ((show OL wr.drew w.heap.size u5 l from HO.out).keep hk6 (ol_apart (show OL wr.drew w.heap.size u5 l from HO.out) HW.out.drew))
        have hb6 := hbr.drew.trans hd
        have VX := Aside0.mk hv6
        clear hw6 hv6 hk6 hn6 hd hc0 hc1 HW HO
        obtain ⟨Ab, cb, rfl, qb⟩ := O6.out.reads
        have QB := Aside0.mk qb
        clear qb O6
        go_wp2_with fail
        go_region_held3 (fun w' => w'.cell? (ad.add (k * 2)) = some (.int .u32 (x : Int)) ∧ w'.cell? ⟨(ad.add (k * 2)).block, (ad.add (k * 2)).off + 1, none⟩ = some (.int .i64 (N : Int))) (go_keep)
          (first | (go_at_call 22; refine (refput_any _ Ab cb x N l ?_ ?_ hx ?_).mono ?_; (exact QB.out); (have := HL.out; omega); omega; rintro e w7 ⟨r7, rfl, ho7, hb7⟩; have he0 := pw_cell_below hb7 hd0; have he1 := pw_cell_below hb7 hd1))
        have hb7' := below_of_drew hb7
        have X7 := Aside0.mk (X6.out.below hb7')
        have hbw7 := below_then hb6 hb6.size hb7'
        have O7 := Aside0.mk ((show OL w7 w6.heap.size r7 (l ++ bitsOf x N) from ho7).lower hb6.size)
        have L2 := Aside0.mk (show (l ++ bitsOf x N).length = m + N by rw [List.length_append, bitsOf_length, HL.out])
        have V2 := Aside0.mk (show numL (l ++ bitsOf x N) = val bs6 by rw [numL_append, numL_bitsOf, HL.out, HV.out, VX.out])
        clear ho7 hb7 he0 he1 hd0 hd1 X6 QB VX hb7' hb6 HL HV
        generalize l ++ bitsOf x N = l2 at *
        have hm2 : m + N ≤ 24 * (k + 1) := by omega
        obtain ⟨M, hM⟩ : ∃ M, M = m + N := ⟨_, rfl⟩
        rw [← hM] at X7 L2 hm2
        clear hM hmk
        have hM2 := L2.out
        subst hM2
        clear L2
        obtain ⟨A7, c7, rfl, q7⟩ := O7.out.reads
        have Q7 := Aside0.mk q7
        clear q7
        go_wp2_with fail
        refine (bits_any w7 _ _ _ _ _ X7.out).mono ?_
        rintro e w8 ⟨rfl, rfl⟩
        go_wp2_with fail
        refine (bytes_any w7 _ _ _ _ _ X7.out (by omega)).mono ?_
        rintro e w8 ⟨r8, rfl, ho8, hb8⟩
        have X8 := Aside0.mk (X7.out.below hb8)
        have O8 := Aside0.mk (O7.out.below hb8)
        have Q8 := Aside0.mk (Q7.out.below hb8)
        have hb8' := below_then hbw7 hbw7.size hb8
        have LX := Aside0.mk X7.out.len
        clear X7 O7 Q7
        go_wp2_with fail
        refine (refbytes_any w8 A7 c7 l2 Q8.out (by omega)).mono ?_
        rintro e w9 ⟨r9, bs9, rfl, ho9, hl9, hv9, hb9⟩
        have X9 := Aside0.mk (X8.out.below hb9)
        have O9 := Aside0.mk (O8.out.below hb9)
        have Q9 := Aside0.mk (Q8.out.below hb9)
        have hb9' := below_then hb8' hb8'.size hb9
        obtain ⟨Ap, cp, rfl, qp⟩ := (ho8.below hb9).reads
        obtain ⟨Aq, cq, rfl, qq⟩ := ho9.reads
        have QP := Aside0.mk qp
        have QQ := Aside0.mk qq
        have ES : (bs6 == bs9) = true := by
          rw [beq_iff_eq]
          exact val_inj _ _ (by rw [LX.out, hl9]) qp.1 qq.1 (by rw [hv9, V2.out])
        clear X8 O8 Q8 ho8 ho9 qp qq hl9 hv9 hb8 hb9 LX hb8'
        go_wp2_with fail
        refine (same_any w9 Ap Aq cp cq _ _ QP.out QQ.out).mono ?_
        rintro e w10 ⟨rfl, rfl⟩
        rw [ES]
        clear ES QP QQ
        go_wp2_with fail
        refine (close_any w9 _ _ _ _ _ X9.out (by omega)).mono ?_
        rintro e w10 ⟨r10, s10, rfl, ho10, hl10, hv10, hb10⟩
        have X10 := Aside0.mk (X9.out.below hb10)
        have O10 := Aside0.mk (O9.out.below hb10)
        have Q10 := Aside0.mk (Q9.out.below hb10)
        have hb10' := below_then hb9' hb9'.size hb10
        clear X9 O9 Q9 hb9'
        go_wp2_with fail
        refine (refclose_any w10 A7 c7 l2 Q10.out (by omega)).mono ?_
        rintro e w11 ⟨r11, s11, rfl, ho11, hl11, hv11, hb11⟩
        have X11 := Aside0.mk (X10.out.below hb11)
        have O11 := Aside0.mk (O10.out.below hb11)
        have hb11' := below_then hb10' hb10'.size hb11
        obtain ⟨Ap, cp, rfl, qp⟩ := (ho10.below hb11).reads
        obtain ⟨Aq, cq, rfl, qq⟩ := ho11.reads
        have QP := Aside0.mk qp
        have QQ := Aside0.mk qq
        have ES : (s10 == s11) = true := by
          rw [beq_iff_eq]
          exact val_inj _ _ (by rw [hl10, hl11]) qp.1 qq.1 (by rw [hv10, hv11, V2.out])
        clear X10 O10 Q10 ho10 ho11 qp qq hl10 hv10 hl11 hv11 hb10 hb11 hb10'
        go_wp2_with fail
        refine (same_any w11 Ap Aq cp cq _ _ QP.out QQ.out).mono ?_
        rintro e w12 ⟨rfl, rfl⟩
        rw [ES]
        clear ES QP QQ
        go_wp2_with fail
        go_roundw
        case rel => exact ⟨k + 1, by omega, by go_num, _, _, _, l2, hm2, X11, O11, ⟨rfl⟩, V2, hb11'⟩
        case measure => simp [intOf]; omega
      · rcases (show n < 0 ∨ (0 ≤ n ∧ 24 < n) by omega) with hn0 | ⟨hn0, hn24⟩
        · clear hf
          go_wp2_with fail
          go_region_held3 (fun w' => w'.cell? (ad.add (k * 2)) = some (.int .u32 (x : Int)) ∧ w'.cell? ⟨(ad.add (k * 2)).block, (ad.add (k * 2)).off + 1, none⟩ = some (.int .i64 n)) (go_keep)
            (first | (go_at_call 21; refine (put_no _ gx x n ?_).mono ?_; omega; rintro e w6 ⟨rfl, rfl⟩))
          have hM2 := HL.out
          subst hM2
          clear HL
          obtain ⟨A7, c7, rfl, q7⟩ := HO.out.reads
          have hm2 : l.length ≤ 24 * (k + 1) := by omega
          have X7 := Aside0.mk HW.out.drew
          have O7 := Aside0.mk (show OL wr.drew w.heap.size (.slice A7 l.length c7) l from HO.out)
          have Q7 := Aside0.mk (show RL wr.drew A7 l from q7)
          have V2 := HV
          have hbw7 := hbr.drew
          clear HW HO q7 hc0 hc1 HV hbr
          generalize wr.drew = w7 at *
          go_wp2_with fail
          refine (bits_any w7 _ _ _ _ _ X7.out).mono ?_
          rintro e w8 ⟨rfl, rfl⟩
          go_wp2_with fail
          refine (bytes_any w7 _ _ _ _ _ X7.out (by omega)).mono ?_
          rintro e w8 ⟨r8, rfl, ho8, hb8⟩
          have X8 := Aside0.mk (X7.out.below hb8)
          have O8 := Aside0.mk (O7.out.below hb8)
          have Q8 := Aside0.mk (Q7.out.below hb8)
          have hb8' := below_then hbw7 hbw7.size hb8
          have LX := Aside0.mk X7.out.len
          clear X7 O7 Q7
          go_wp2_with fail
          refine (refbytes_any w8 A7 c7 l Q8.out (by omega)).mono ?_
          rintro e w9 ⟨r9, bs9, rfl, ho9, hl9, hv9, hb9⟩
          have X9 := Aside0.mk (X8.out.below hb9)
          have O9 := Aside0.mk (O8.out.below hb9)
          have Q9 := Aside0.mk (Q8.out.below hb9)
          have hb9' := below_then hb8' hb8'.size hb9
          obtain ⟨Ap, cp, rfl, qp⟩ := (ho8.below hb9).reads
          obtain ⟨Aq, cq, rfl, qq⟩ := ho9.reads
          have QP := Aside0.mk qp
          have QQ := Aside0.mk qq
          have ES : (bs == bs9) = true := by
            rw [beq_iff_eq]
            exact val_inj _ _ (by rw [LX.out, hl9]) qp.1 qq.1 (by rw [hv9, V2.out])
          clear X8 O8 Q8 ho8 ho9 qp qq hl9 hv9 hb8 hb9 LX hb8'
          go_wp2_with fail
          refine (same_any w9 Ap Aq cp cq _ _ QP.out QQ.out).mono ?_
          rintro e w10 ⟨rfl, rfl⟩
          rw [ES]
          clear ES QP QQ
          go_wp2_with fail
          refine (close_any w9 _ _ _ _ _ X9.out (by omega)).mono ?_
          rintro e w10 ⟨r10, s10, rfl, ho10, hl10, hv10, hb10⟩
          have X10 := Aside0.mk (X9.out.below hb10)
          have O10 := Aside0.mk (O9.out.below hb10)
          have Q10 := Aside0.mk (Q9.out.below hb10)
          have hb10' := below_then hb9' hb9'.size hb10
          clear X9 O9 Q9 hb9'
          go_wp2_with fail
          refine (refclose_any w10 A7 c7 l Q10.out (by omega)).mono ?_
          rintro e w11 ⟨r11, s11, rfl, ho11, hl11, hv11, hb11⟩
          have X11 := Aside0.mk (X10.out.below hb11)
          have O11 := Aside0.mk (O10.out.below hb11)
          have hb11' := below_then hb10' hb10'.size hb11
          obtain ⟨Ap, cp, rfl, qp⟩ := (ho10.below hb11).reads
          obtain ⟨Aq, cq, rfl, qq⟩ := ho11.reads
          have QP := Aside0.mk qp
          have QQ := Aside0.mk qq
          have ES : (s10 == s11) = true := by
            rw [beq_iff_eq]
            exact val_inj _ _ (by rw [hl10, hl11]) qp.1 qq.1 (by rw [hv10, hv11, V2.out])
          clear X10 O10 Q10 ho10 ho11 qp qq hl10 hv10 hl11 hv11 hb10 hb11 hb10'
          go_wp2_with fail
          refine (same_any w11 Ap Aq cp cq _ _ QP.out QQ.out).mono ?_
          rintro e w12 ⟨rfl, rfl⟩
          rw [ES]
          clear ES QP QQ
          go_wp2_with fail
          go_roundw
          case rel => exact ⟨k + 1, by omega, by go_num, _, _, _, l, hm2, X11, O11, ⟨rfl⟩, V2, hb11'⟩
          case measure => simp [intOf]; omega
        · clear hf
          go_wp2_with fail
          go_region_held3 (fun w' => w'.cell? (ad.add (k * 2)) = some (.int .u32 (x : Int)) ∧ w'.cell? ⟨(ad.add (k * 2)).block, (ad.add (k * 2)).off + 1, none⟩ = some (.int .i64 n)) (go_keep)
            (first | (go_at_call 21; refine (put_no _ gx x n ?_).mono ?_; omega; rintro e w6 ⟨rfl, rfl⟩))
          have hM2 := HL.out
          subst hM2
          clear HL
          obtain ⟨A7, c7, rfl, q7⟩ := HO.out.reads
          have hm2 : l.length ≤ 24 * (k + 1) := by omega
          have X7 := Aside0.mk HW.out.drew
          have O7 := Aside0.mk (show OL wr.drew w.heap.size (.slice A7 l.length c7) l from HO.out)
          have Q7 := Aside0.mk (show RL wr.drew A7 l from q7)
          have V2 := HV
          have hbw7 := hbr.drew
          clear HW HO q7 hc0 hc1 HV hbr
          generalize wr.drew = w7 at *
          go_wp2_with fail
          refine (bits_any w7 _ _ _ _ _ X7.out).mono ?_
          rintro e w8 ⟨rfl, rfl⟩
          go_wp2_with fail
          refine (bytes_any w7 _ _ _ _ _ X7.out (by omega)).mono ?_
          rintro e w8 ⟨r8, rfl, ho8, hb8⟩
          have X8 := Aside0.mk (X7.out.below hb8)
          have O8 := Aside0.mk (O7.out.below hb8)
          have Q8 := Aside0.mk (Q7.out.below hb8)
          have hb8' := below_then hbw7 hbw7.size hb8
          have LX := Aside0.mk X7.out.len
          clear X7 O7 Q7
          go_wp2_with fail
          refine (refbytes_any w8 A7 c7 l Q8.out (by omega)).mono ?_
          rintro e w9 ⟨r9, bs9, rfl, ho9, hl9, hv9, hb9⟩
          have X9 := Aside0.mk (X8.out.below hb9)
          have O9 := Aside0.mk (O8.out.below hb9)
          have Q9 := Aside0.mk (Q8.out.below hb9)
          have hb9' := below_then hb8' hb8'.size hb9
          obtain ⟨Ap, cp, rfl, qp⟩ := (ho8.below hb9).reads
          obtain ⟨Aq, cq, rfl, qq⟩ := ho9.reads
          have QP := Aside0.mk qp
          have QQ := Aside0.mk qq
          have ES : (bs == bs9) = true := by
            rw [beq_iff_eq]
            exact val_inj _ _ (by rw [LX.out, hl9]) qp.1 qq.1 (by rw [hv9, V2.out])
          clear X8 O8 Q8 ho8 ho9 qp qq hl9 hv9 hb8 hb9 LX hb8'
          go_wp2_with fail
          refine (same_any w9 Ap Aq cp cq _ _ QP.out QQ.out).mono ?_
          rintro e w10 ⟨rfl, rfl⟩
          rw [ES]
          clear ES QP QQ
          go_wp2_with fail
          refine (close_any w9 _ _ _ _ _ X9.out (by omega)).mono ?_
          rintro e w10 ⟨r10, s10, rfl, ho10, hl10, hv10, hb10⟩
          have X10 := Aside0.mk (X9.out.below hb10)
          have O10 := Aside0.mk (O9.out.below hb10)
          have Q10 := Aside0.mk (Q9.out.below hb10)
          have hb10' := below_then hb9' hb9'.size hb10
          clear X9 O9 Q9 hb9'
          go_wp2_with fail
          refine (refclose_any w10 A7 c7 l Q10.out (by omega)).mono ?_
          rintro e w11 ⟨r11, s11, rfl, ho11, hl11, hv11, hb11⟩
          have X11 := Aside0.mk (X10.out.below hb11)
          have O11 := Aside0.mk (O10.out.below hb11)
          have hb11' := below_then hb10' hb10'.size hb11
          obtain ⟨Ap, cp, rfl, qp⟩ := (ho10.below hb11).reads
          obtain ⟨Aq, cq, rfl, qq⟩ := ho11.reads
          have QP := Aside0.mk qp
          have QQ := Aside0.mk qq
          have ES : (s10 == s11) = true := by
            rw [beq_iff_eq]
            exact val_inj _ _ (by rw [hl10, hl11]) qp.1 qq.1 (by rw [hv10, hv11, V2.out])
          clear X10 O10 Q10 ho10 ho11 qp qq hl10 hv10 hl11 hv11 hb10 hb11 hb10'
          go_wp2_with fail
          refine (same_any w11 Ap Aq cp cq _ _ QP.out QQ.out).mono ?_
          rintro e w12 ⟨rfl, rfl⟩
          rw [ES]
          clear ES QP QQ
          go_wp2_with fail
          go_roundw
          case rel => exact ⟨k + 1, by omega, by go_num, _, _, _, l, hm2, X11, O11, ⟨rfl⟩, V2, hb11'⟩
          case measure => simp [intOf]; omega
    · obtain rfl : k = ps.length := by omega
      go_wp2_with fail
      refine (bytes_any wr _ _ _ _ _ HW.out (by omega)).mono ?_
      rintro e w3 ⟨r, rfl, ho, hb3⟩
      obtain ⟨A3, c3, rfl, q3⟩ := ho.reads
      have X3 := Aside0.mk (HW.out.below hb3)
      have hb3' := below_then hbr hbr.size hb3
      have LX := Aside0.mk HW.out.len
      clear ho q3 HW HO
      go_wp2_with fail
      refine (bits_any w3 _ _ _ _ _ X3.out).mono ?_
      rintro e w4 ⟨rfl, rfl⟩
      have hlx : (bs.length : Int) = ((m : Int) + 7) / 8 := by have := LX.out; omega
      go_wp2_with fail
      go_ret
      exact ⟨ret_bool (by simp), hb3'⟩

theorem plays_walk (a0 : Option Addr) (len0 cap0 : Nat) (z0 : List (Nat × Int)) (w : World) (w0 : len0 = z0.length ∧ RP w a0 z0) :
    Calls Try.prog 6 #[.slice a0 len0 cap0] w fun e w' => e = .returned (.bool true) ∧ Below w.heap.size w w' := by
  obtain ⟨rfl, hr⟩ := w0
  rcases Nat.lt_or_ge 60 z0.length with h | h
  · exact plays_long cap0 a0 _ w h
  · exact plays_short cap0 a0 z0 w hr h
end Go.Proofs.Ytohgkdiagekmbaa.Bitw
