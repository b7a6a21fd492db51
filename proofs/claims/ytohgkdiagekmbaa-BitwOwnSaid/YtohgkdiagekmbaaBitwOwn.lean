/- Proved here: the law BitwOwn returns true for every input and changes nothing that was there. Conditions: none. -/
import Derived.Test.YtohgkdiagekmbaaBitwTwo
namespace Go.Proofs.Ytohgkdiagekmbaa.Bitw
open Go.RowKit Go.Proofs.YtohgkdiagekmbaaW.PrintWords Go.Proofs.Ytohgkdiagekmbaa.CrcM Go.Proofs.Ytohgkdiagekmbaa.BitsM Go.Proofs.Ytohgkdiagekmbaa.Base

set_option maxRecDepth 100000 in
set_option maxHeartbeats 400000 in
theorem own_long (c v : Nat) (A : Option Addr) (l : Nat) (w : World) (hn : 60 < l) :
    Calls Try.prog 9 #[.slice A l c, .int .u8 (v : Int)] w fun e w' => e = .returned (.bool true) ∧ Below w.heap.size w w' := by
  go_enter Try.func9, Try.ntmps9
  go_wp2_with (go_at_call 19; refine (awake_any _).mono ?_; rintro e w1 ⟨rfl, hb1⟩)
  go_ret
  exact ⟨rfl, hb1⟩

set_option maxRecDepth 100000 in
set_option maxHeartbeats 1000000 in
theorem own_short (c v : Nat) (A : Option Addr) (ps : List (Nat × Int)) (w : World) (hr : RP w A ps) (hn : ps.length ≤ 60) (hv : v < 256) :
    Calls Try.prog 9 #[.slice A ps.length c, .int .u8 (v : Int)] w fun e w' => e = .returned (.bool true) ∧ Below w.heap.size w w' := by
  have HR := Aside0.mk hr
  clear hr
  have hpl := puts_len ps (0, 0)
  go_enter Try.func9, Try.ntmps9
  go_wp2_with (go_at_call 19; refine (awake_any _).mono ?_; rintro e w1 ⟨rfl, hb1⟩)
  refine (puts_any _ A c ps (HR.out.below hb1) hn).mono ?_
  rintro e w2 ⟨gx, vx, bx, rfl, hx2, hvx, hb2⟩
  have hb2' := below_then hb1 hb1.size hb2
  have X2 := Aside0.mk hx2
  have VX := Aside0.mk hvx
  clear hx2 hvx
  go_wp2_with fail
  refine (puts_any _ A c ps (HR.out.below hb2') hn).mono ?_
  rintro e w3 ⟨gy, vy, bY, rfl, hy3, hvy, hb3⟩
  have hb3' := below_then hb2' hb2'.size hb3
  have Y3 := Aside0.mk (hy3.lower hb2'.size)
  have VY := Aside0.mk hvy
  have X3 := Aside0.mk ((X2.out.below hb3).lower hb1.size)
  have DXY := Aside0.mk (Apart2.of X2.out hy3 (Nat.le_refl _))
  have hm : (puts (0, 0) ps).2 ≤ 1440 := by omega
  clear hy3 hvy X2 hb1 hb2 hb3 hb2' hpl
  have EXY := Aside0.mk (show val bx = val bY by rw [VX.out, VY.out])
  clear VX VY
  generalize (puts (0, 0) ps).2 = m at *
  go_wp2_with fail
  refine (bytes_any w3 _ _ _ _ _ X3.out (by omega)).mono ?_
  rintro e w4 ⟨ra, rfl, ha, hb4⟩
  obtain ⟨Aa, ca, rfl, qa⟩ := ha.reads
  have OA := Aside0.mk ha
  have X4 := Aside0.mk (X3.out.below hb4)
  clear ha qa
  go_wp2_with fail
  refine (close_any w4 _ _ _ _ _ X4.out (by omega)).mono ?_
  rintro e w5 ⟨rb, sb, rfl, hob, hlb, hvb, hb5⟩
  obtain ⟨Ab, cb, rfl, qb⟩ := hob.reads
  have OB5 := Aside0.mk hob
  have OAlt := Aside0.mk OA.out.lt
  have OA5 := Aside0.mk (OA.out.below hb5)
  have hb5' := below_then hb4 hb4.size hb5
  have h45 := hb4.size
  have hlen := X3.out.len
  have HLA := Aside0.mk hlen
  have hla : bx.length ≤ 200 := by omega
  have HLB := Aside0.mk hlb
  have hlb' : sb.length ≤ 200 := by omega
  clear hob qb hvb hb5 hb4 OA X4 hlen hlb
  go_wp2_with fail
  go_loopw [10] (fun i wr => ∃ (k : Nat) (cs : List Nat), k ≤ bx.length ∧ i = .int .i64 k ∧ Aside0 (cs.length = bx.length) ∧ Aside0 (OB wr w3.heap.size 5 (.slice Aa bx.length ca) cs) ∧ Aside0 (OB wr w4.heap.size 5 (.slice Ab sb.length cb) sb) ∧ Below w3.heap.size w3 wr) (fun i _ => bx.length - (intOf i).toNat)
  case atStart => exact ⟨0, bx, by omega, rfl, ⟨rfl⟩, OA5, OB5, hb5'⟩
  case round =>
    obtain ⟨k, cs, hk, rfl, HL, O1, O2, hbr⟩ := hrel
    by_cases hlt : k < bx.length
    · obtain ⟨g1, p1, he, hg1, hg1'⟩ := O1.out.form' HL.out (by omega)
      injection he with he1 he2 he3
      subst he1 he3
      obtain ⟨hx1, hx2⟩ := O1.out.at' HL.out k hlt
      have hc8 : cs.getD k 0 < 256 := by
        have := HL.out
        rw [List.getD_eq_getElem?_getD, List.getElem?_eq_getElem (by omega)]
        exact O1.out.1 _ (List.getElem_mem _)
      have hbx : bits .xor .u8 ((cs.getD k 0 : Nat) : Int) (v : Int) = ((cs.getD k 0 ^^^ v : Nat) : Int) := u8_xor_nat _ v hc8 hv
      have hy8 : cs.getD k 0 ^^^ v < 256 := Nat.xor_lt_two_pow (n := 8) hc8 hv
      have P1 := O1.out.store' HL.out k _ hy8
      have R1 := Aside0.mk P1.1
      have hab : ∀ kk, (Value.slice Ab sb.length cb).ownBlock = some kk → g1 ≠ kk := fun kk e e' => by
        have a1 := O2.out.base kk e
        have a2 := OA5.out.base g1 rfl
        have a3 := OAlt.out g1 rfl
        omega
      have R2 := Aside0.mk (O2.out.kept P1.2 (by
        rcases hob : (Value.slice Ab sb.length cb).ownBlock with _ | kk
        · exact .inl rfl
        · exact .inr (fun e => hab kk hob (by injection e with e; exact e.symm))))
      have R3 := Aside0.mk (hbr.setCell (p := ⟨g1, k, none⟩) hg1 (.int .u8 ((cs.getD k 0 ^^^ v : Nat) : Int)))
      have RL := Aside0.mk (show (cs.set k (cs.getD k 0 ^^^ v)).length = bx.length by rw [List.length_set]; exact HL.out)
      clear P1 O1 O2 hab hbr
      generalize cs.getD k 0 ^^^ v = y at *
      generalize cs.getD k 0 = x0 at *
      go_wp2_with fail
      go_roundw
      case rel => exact ⟨k + 1, _, by omega, by go_num, RL, R1, R2, R3.out⟩
      case measure => simp [intOf]; omega
    · obtain rfl : k = bx.length := by omega
      clear O1
      go_wp2_with fail
      go_loopw [11] (fun i ws => ∃ (k : Nat) (cs : List Nat), k ≤ sb.length ∧ i = .int .i64 k ∧ Aside0 (cs.length = sb.length) ∧ Aside0 (OB ws w4.heap.size 5 (.slice Ab sb.length cb) cs) ∧ Below w3.heap.size w3 ws) (fun i _ => sb.length - (intOf i).toNat)
      case atStart => exact ⟨0, sb, by omega, rfl, ⟨rfl⟩, O2, hbr⟩
      case round =>
        clear hbr O2
        obtain ⟨k, cs, hk, rfl, HL, O1, hbr⟩ := hrel
        by_cases hlt : k < sb.length
        · obtain ⟨g1, p1, he, hg1, hg1'⟩ := O1.out.form' HL.out (by omega)
          injection he with he1 he2 he3
          subst he1 he3
          obtain ⟨hx1, hx2⟩ := O1.out.at' HL.out k hlt
          have hc8 : cs.getD k 0 < 256 := by
            have := HL.out
            rw [List.getD_eq_getElem?_getD, List.getElem?_eq_getElem (by omega)]
            exact O1.out.1 _ (List.getElem_mem _)
          have hbx : bits .xor .u8 ((cs.getD k 0 : Nat) : Int) (v : Int) = ((cs.getD k 0 ^^^ v : Nat) : Int) := u8_xor_nat _ v hc8 hv
          have hy8 : cs.getD k 0 ^^^ v < 256 := Nat.xor_lt_two_pow (n := 8) hc8 hv
          have P1 := O1.out.store' HL.out k _ hy8
          have R1 := Aside0.mk P1.1
          have R3 := Aside0.mk (hbr.setCell (p := ⟨g1, k, none⟩) (Nat.le_trans h45 hg1) (.int .u8 ((cs.getD k 0 ^^^ v : Nat) : Int)))
          have RL := Aside0.mk (show (cs.set k (cs.getD k 0 ^^^ v)).length = sb.length by rw [List.length_set]; exact HL.out)
          clear P1 O1 hbr
          generalize cs.getD k 0 ^^^ v = y at *
          generalize cs.getD k 0 = x0 at *
          go_wp2_with fail
          go_roundw
          case rel => exact ⟨k + 1, _, by omega, by go_num, RL, R1, R3.out⟩
          case measure => simp [intOf]; omega
        · obtain rfl : k = sb.length := by omega
          have X6 := Aside0.mk (X3.out.below hbr)
          have Y6 := Aside0.mk (Y3.out.below hbr)
          have hb6 := below_then hb3' hb3'.size hbr
          clear O1 OA5 OB5 OAlt X3 Y3
          go_wp2_with fail
          refine (put_any wr _ gx m 9 5 vx bx X6.out (by omega) (by omega) (by omega)).mono ?_
          rintro e w7 ⟨rfl, vx7, bx7, hx7, hvx7, hk7, hn7⟩
          have Y7 := Aside0.mk (Y6.out.keep hk7 DXY.out.symm)
          have DXY7 := Aside0.mk (DXY.out.next hn7 Y6.out)
          have X7 := Aside0.mk hx7
          have VX7 := Aside0.mk hvx7
          have hb7 := hb6.trans (hk7.below hb6.size X6.out.foot_base)
          clear hx7 hvx7 hk7 hn7 X6 Y6 DXY
          go_wp2_with fail
          refine (put_any w7 _ gy m 9 5 vy bY Y7.out (by omega) (by omega) (by omega)).mono ?_
          rintro e w8 ⟨rfl, vy8, by8, hy8, hvy8, hk8, hn8⟩
          have X8 := Aside0.mk (X7.out.keep hk8 DXY7.out)
          have Y8 := Aside0.mk hy8
          have EV := Aside0.mk (show val bx7 = val by8 by rw [VX7.out, hvy8, EXY.out])
          have hb8 := hb7.trans (hk8.below hb7.size Y7.out.foot_base)
          clear hy8 hvy8 hk8 hn8 X7 Y7 DXY7 VX7
          go_wp2_with fail
          refine (close_any w8 _ _ _ _ _ X8.out (by omega)).mono ?_
          rintro e w9 ⟨r1, s1, rfl, ho1, hl1, hv1, hb9⟩
          have Y9 := Aside0.mk (Y8.out.below hb9)
          have X9 := Aside0.mk (X8.out.below hb9)
          have hb9' := below_then hb8 hb8.size hb9
          clear X8 Y8
          go_wp2_with fail
          refine (close_any w9 _ _ _ _ _ Y9.out (by omega)).mono ?_
          rintro e w10 ⟨r2, s2, rfl, ho2, hl2, hv2, hb10⟩
          have X10 := Aside0.mk (X9.out.below hb10)
          have Y10 := Aside0.mk (Y9.out.below hb10)
          have hb10' := below_then hb9' hb9'.size hb10
          have O1 := Aside0.mk (ho1.below hb10)
          obtain ⟨A1, c1, rfl, q1⟩ := O1.out.reads
          obtain ⟨A2, c2, rfl, q2⟩ := ho2.reads
          have Q1 := Aside0.mk q1
          have Q2 := Aside0.mk q2
          have ES := closes_same s1 s2 _ _ (m + 5) q1.1 q2.1 hl1 hl2 hv1 hv2 EV.out
          clear X9 Y9 q1 q2 ho1 ho2 O1 hl1 hl2 hv1 hv2
          go_wp2_with fail
          refine (same_any w10 A1 A2 c1 c2 s1 s2 Q1.out Q2.out).mono ?_
          rintro e w11 ⟨rfl, rfl⟩
          rw [ES]
          clear Q1 Q2 ES
          go_wp2_with fail
          refine (bytes_any w10 _ _ _ _ _ X10.out (by omega)).mono ?_
          rintro e w11 ⟨r3, rfl, ho3, hb11⟩
          have Y11 := Aside0.mk (Y10.out.below hb11)
          have hb11' := below_then hb10' hb10'.size hb11
          have LX := Aside0.mk X10.out.len
          clear X10 Y10
          go_wp2_with fail
          refine (bytes_any w11 _ _ _ _ _ Y11.out (by omega)).mono ?_
          rintro e w12 ⟨r4, rfl, ho4, hb12⟩
          have hb12' := below_then hb11' hb11'.size hb12
          have O3 := Aside0.mk (ho3.below hb12)
          obtain ⟨A3, c3, rfl, q3⟩ := O3.out.reads
          obtain ⟨A4, c4, rfl, q4⟩ := ho4.reads
          have Q3 := Aside0.mk q3
          have Q4 := Aside0.mk q4
          have ES : (bx7 == by8) = true := by
            rw [beq_iff_eq]
            exact val_inj _ _ (LX.out.trans Y11.out.len.symm) q3.1 q4.1 EV.out
          clear Y11 q3 q4 ho3 ho4 O3
          go_wp2_with fail
          refine (same_any w12 A3 A4 c3 c4 _ _ Q3.out Q4.out).mono ?_
          rintro e w13 ⟨rfl, rfl⟩
          rw [ES]
          clear Q3 Q4 ES
          go_wp2_with fail
          go_ret
          exact ⟨rfl, hb12'⟩

theorem own_walk (a0 : Option Addr) (len0 cap0 : Nat) (z0 : List (Nat × Int)) (a1 : Int) (w : World) (w0 : len0 = z0.length ∧ RP w a0 z0) (w1 : (Lit.int .u8 a1).wf = true) :
    Calls Try.prog 9 #[.slice a0 len0 cap0, .int .u8 a1] w fun e w' => e = .returned (.bool true) ∧ Below w.heap.size w w' := by
  obtain ⟨rfl, hr⟩ := w0
  have h1 := u8_range w1
  obtain ⟨v, rfl⟩ := Int.eq_ofNat_of_zero_le h1.1
  rcases Nat.lt_or_ge 60 z0.length with h | h
  · exact own_long cap0 v a0 _ w h
  · exact own_short cap0 v a0 z0 w hr h (by omega)
end Go.Proofs.Ytohgkdiagekmbaa.Bitw
