/- Proved here: the law BitwJoins returns true for every input and changes nothing that was there. Conditions: none. -/
import Derived.Test.YtohgkdiagekmbaaBitwTwo
namespace Go.Proofs.Ytohgkdiagekmbaa.Bitw
open Go.RowKit Go.Proofs.YtohgkdiagekmbaaW.PrintWords Go.Proofs.Ytohgkdiagekmbaa.CrcM Go.Proofs.Ytohgkdiagekmbaa.BitsM Go.Proofs.Ytohgkdiagekmbaa.Base

/-- What is put behind others: the same bits, so many places further. -/
theorem puts_shift (V a : Nat) (ps : List (Nat × Int)) : ∀ W c, puts (V + 2 ^ a * W, a + c) ps = (V + 2 ^ a * (puts (W, c) ps).1, a + (puts (W, c) ps).2) := by
  induction ps with
  | nil => intro W c; rfl
  | cons p ps ih =>
    intro W c
    have e : ∀ s, puts s (p :: ps) = puts (put1 s p) ps := fun _ => rfl
    rw [e, e]
    unfold put1
    by_cases hf : fits p.2 = true
    · rw [if_pos hf, if_pos hf]
      have e2 : V + 2 ^ a * W + 2 ^ (a + c) * (p.1 % 2 ^ p.2.toNat) = V + 2 ^ a * (W + 2 ^ c * (p.1 % 2 ^ p.2.toNat)) := by
        rw [Nat.mul_add, Nat.pow_add, Nat.mul_assoc, Nat.add_assoc]
      rw [e2, show a + c + p.2.toNat = a + (c + p.2.toNat) by omega]
      exact ih _ _
    · rw [if_neg hf, if_neg hf]
      exact ih W c
theorem shift (ps : List (Nat × Int)) (V a : Nat) : puts (V, a) ps = (V + 2 ^ a * (puts (0, 0) ps).1, a + (puts (0, 0) ps).2) := by
  have h := puts_shift V a ps 0 0
  simpa using h
theorem joined (fs cs rs : List Nat) (q m V U : Nat) (hf : ∀ b ∈ fs, b < 256) (hc : ∀ b ∈ cs, b < 256) (hr : ∀ b ∈ rs, b < 256) (hlf : fs.length = q) (hlc : cs.length = m / 8 + 1) (hlr : rs.length = (8 * q + m) / 8 + 1)
    (hvf : val fs = V) (hvc : val cs = U + 2 ^ m) (hvr : val rs = V + 2 ^ (8 * q) * U + 2 ^ (8 * q + m)) : (rs == fs ++ cs) = true := by
  rw [beq_iff_eq]
  refine val_inj _ _ (by rw [List.length_append]; omega) hr (fun b hb => ?_) ?_
  · rcases List.mem_append.1 hb with hb | hb
    · exact hf b hb
    · exact hc b hb
  · rw [val_append, hlf, hvr, hvf, hvc, Nat.mul_add, ← Nat.pow_add, Nat.add_assoc]

set_option maxRecDepth 100000 in
set_option maxHeartbeats 400000 in
theorem joins_long (c d : Nat) (A B : Option Addr) (l n : Nat) (w : World) (hn : 30 < l ∨ 30 < n) :
    Calls Try.prog 10 #[.slice A l c, .slice B n d] w fun e w' => e = .returned (.bool true) ∧ Below w.heap.size w w' := by
  rcases Nat.lt_or_ge 30 l with h | h
  · clear hn
    go_enter Try.func10, Try.ntmps10
    go_wp2_with (go_at_call 19; refine (awake_any _).mono ?_; rintro e w1 ⟨rfl, hb1⟩)
    go_ret
    exact ⟨rfl, hb1⟩
  · have h2 : 30 < n := by omega
    clear hn
    go_enter Try.func10, Try.ntmps10
    go_wp2_with (go_at_call 19; refine (awake_any _).mono ?_; rintro e w1 ⟨rfl, hb1⟩)
    go_ret
    exact ⟨rfl, hb1⟩
/-- A writer apart from some blocks. -/
def Sep (g : Nat) (v : Value) (S : Nat → Prop) : Prop := ∀ i, foot g v i → ¬ S i
theorem Sep.next {w : World} {g : Nat} {v v1 : Value} {S : Nat → Prop} (h : Sep g v S) (hn : Next w v v1) (hS : ∀ i, S i → i < w.heap.size) : Sep g v1 S := by
  rintro i (e | e) b
  · exact h i (.inl e) b
  · rcases hn with hn | ⟨c, hc, hle⟩
    · exact h i (.inr (by rw [← hn]; exact e)) b
    · rw [hc] at e
      injection e with e
      have := hS i b
      omega

set_option maxRecDepth 100000 in
set_option maxHeartbeats 1000000 in
theorem joins_short (c d : Nat) (A B : Option Addr) (ps qs : List (Nat × Int)) (w : World) (hr : RP w A ps) (hr' : RP w B qs) (hn : ps.length ≤ 30) (hn' : qs.length ≤ 30) :
    Calls Try.prog 10 #[.slice A ps.length c, .slice B qs.length d] w fun e w' => e = .returned (.bool true) ∧ Below w.heap.size w w' := by
  have HR := Aside0.mk hr
  have HQ := Aside0.mk hr'
  clear hr hr'
  have hpl := puts_len ps (0, 0)
  have hql := puts_len qs (0, 0)
  go_enter Try.func10, Try.ntmps10
  go_wp2_with (go_at_call 19; refine (awake_any _).mono ?_; rintro e w1 ⟨rfl, hb1⟩)
  refine (puts_any _ A c ps (HR.out.below hb1) (by omega)).mono ?_
  rintro e w2 ⟨gx, vx, bx, rfl, hx2, hvx, hb2⟩
  have hb2' := below_then hb1 hb1.size hb2
  have X2 := Aside0.mk hx2
  have VX := Aside0.mk hvx
  clear hx2 hvx
  go_wp2_with fail
  refine (puts_any _ B d qs (HQ.out.below hb2') (by omega)).mono ?_
  rintro e w3 ⟨gy, vy, bY, rfl, hy3, hvy, hb3⟩
  have hb3' := below_then hb2' hb2'.size hb3
  have Y3 := Aside0.mk (hy3.lower hb2'.size)
  have VY := Aside0.mk hvy
  have X3 := Aside0.mk ((X2.out.below hb3).lower hb1.size)
  have DXY := Aside0.mk (Apart2.of X2.out hy3 (Nat.le_refl _))
  have hm : (puts (0, 0) ps).2 ≤ 720 := by omega
  have hm' : (puts (0, 0) qs).2 ≤ 720 := by omega
  clear hy3 hvy X2 hb1 hb2 hb3 hb2' hpl hql
  generalize (puts (0, 0) ps).2 = m at *
  generalize (puts (0, 0) ps).1 = V at *
  go_wp2_with fail
  refine (bits_any w3 _ _ _ _ _ X3.out).mono ?_
  rintro e w4 ⟨rfl, rfl⟩
  by_cases h8 : m % 8 = 0
  · have ht : ((m : Int) % 8 != 0) = false := by rw [bne_eq_false_iff_eq]; omega
    obtain ⟨q, rfl⟩ : ∃ q, m = 8 * q := ⟨m / 8, by omega⟩
    go_wp2_with fail
    refine (bytes_any w3 _ _ _ _ _ X3.out (by omega)).mono ?_
    rintro e w5 ⟨rf, rfl, hof, hb5⟩
    have X5 := Aside0.mk (X3.out.below hb5)
    have Y5 := Aside0.mk (Y3.out.below hb5)
    have hb5' := below_then hb3' hb3'.size hb5
    have LX := Aside0.mk (show bx.length = q by rw [X3.out.len]; omega)
    have HLT := Aside0.mk hof.lt
    have SEP5 := Aside0.mk (show Sep gx vx (fun i => foot gy vy i ∨ some i = rf.ownBlock) from fun i a b => by
      rcases b with b | b
      · exact DXY.out i a b
      · have := X3.out.foot_lt i a
        have := hof.base i b.symm
        omega)
    have SLT := Aside0.mk (show ∀ i, (foot gy vy i ∨ some i = rf.ownBlock) → i < w5.heap.size from fun i b => by
      rcases b with b | b
      · exact Y5.out.foot_lt i b
      · exact hof.lt i b.symm)
    have OF5 := Aside0.mk (hof.lower hb3'.size)
    clear hof hb5 X3 Y3 DXY
    go_wp2_with fail
    go_loopw [9] (fun i wr => ∃ k : Nat, k ≤ qs.length ∧ i = .int .i64 k ∧ ∃ v bs, Aside0 (Wr wr w.heap.size gx v bs (puts (V, 8 * q) (qs.take k)).2) ∧ Aside0 (val bs = (puts (V, 8 * q) (qs.take k)).1) ∧
      Aside0 (Sep gx v (fun i => foot gy vy i ∨ some i = rf.ownBlock)) ∧ Aside0 (Wr wr w.heap.size gy vy bY (puts (0, 0) qs).2) ∧ Aside0 (OB wr w.heap.size 5 rf bx) ∧ Below w.heap.size w wr ∧ w5.heap.size ≤ wr.heap.size) (fun i _ => qs.length - (intOf i).toNat)
    case atStart => exact ⟨0, by omega, rfl, vx, bx, X5, VX, SEP5, Y5, OF5, hb5', Nat.le_refl _⟩
    case round =>
      obtain ⟨k, hk, rfl, v, bs, HW, HV, HSEP, HY, HOF, hbr, hsz⟩ := hrel
      by_cases hlt : k < qs.length
      · obtain ⟨ad, rfl, hw0, hw1⟩ := HQ.out.at_ k hlt
        have hq0 := World.block_lt_of_cell? w _ hw0
        have hc0 := pw_cell_below hbr hw0
        have hc1 := pw_cell_below hbr hw1
        clear hw0 hw1
        obtain ⟨hx, hwf⟩ := HQ.out.get k hlt
        have hlen := puts_len (qs.take k) (V, 8 * q)
        have HS := Aside0.mk (puts_snoc (V, 8 * q) qs k hlt)
        have htl : (qs.take k).length ≤ 60 := by rw [List.length_take]; omega
        generalize qs.getD k (0, 0) = p at *
        obtain ⟨x, n⟩ := p
        dsimp only at hc0 hc1 hx hwf hlen
        have hi := i64_range hwf
        have hm0 : (puts (V, 8 * q) (qs.take k)).2 ≤ 50000 := by omega
        generalize hs : puts (V, 8 * q) (qs.take k) = s at *
        clear hs
        go_wp2_with fail
        go_region_held3 (fun w' => w'.cell? (ad.add (k * 2)) = some (.int .u32 (x : Int)) ∧ w'.cell? ⟨(ad.add (k * 2)).block, (ad.add (k * 2)).off + 1, none⟩ = some (.int .i64 n)) (go_keep)
          (first | (go_at_call 21; refine (put_all _ w.heap.size gx s.2 x n v bs ?_ hm0 hx).mono ?_; (exact HW.out.drew); rintro e w6 ⟨rfl, v6, bs6, hw6, hv6, hk6, hn6⟩; have hd := hk6.below (B := w.heap.size) (by exact hbr.size) (by exact HW.out.foot_base); have hd0 := below_cell_drew hd hq0 hc0; have hd1 := below_cell_drew (p := ⟨(ad.add (k * 2)).block, (ad.add (k * 2)).off + 1, none⟩) hd hq0 hc1))
        have e1 : (val bs, s.2) = s := by rw [HV.out]
        rw [e1] at hw6 hv6
        have R1 := Aside0.mk (show Wr w6 w.heap.size gx v6 bs6 (puts (V, 8 * q) (qs.take (k + 1))).2 by rw [HS.out]; exact hw6)
        have R2 := Aside0.mk (show val bs6 = (puts (V, 8 * q) (qs.take (k + 1))).1 by rw [HS.out]; exact hv6)
        have R3 := Aside0.mk (HSEP.out.next hn6 (fun i b => by have := SLT.out i b; exact Nat.lt_of_lt_of_le this hsz))
        have R4 := Aside0.mk (HY.out.drew.keep hk6 (fun i a b => HSEP.out i b (.inl a)))
        have R5 := Aside0.mk (HOF.out.drew.keep hk6 (fun kk a b => HSEP.out kk b (.inr a.symm)))
        have hbr2 := hbr.drew.trans hd
        have hsz2 : w5.heap.size ≤ w6.heap.size := Nat.le_trans hsz hk6.size
        clear hw6 hv6 hk6 hn6 hd hd0 hd1 hc0 hc1 e1 HW HV HSEP HY HOF
        go_wp2_with fail
        go_roundw
        case rel => exact ⟨k + 1, by omega, by go_num, v6, bs6, R1, R2, R3, R4, R5, hbr2, hsz2⟩
        case measure => simp [intOf]; omega
      · obtain rfl : k = qs.length := by omega
        rw [List.take_length, shift] at HW HV
        have hml : 8 * q + (puts (0, 0) qs).2 ≤ 2000 := by omega
        dsimp only at HW HV
        clear X5 Y5
        go_wp2_with fail
        refine (close_any wr _ _ _ _ _ HW.out (by omega)).mono ?_
        rintro e w7 ⟨r1, s1, rfl, ho1, hl1, hv1, hb7⟩
        have Y7 := Aside0.mk (HY.out.below hb7)
        have F7 := Aside0.mk (HOF.out.below hb7)
        have hb7' := below_then hbr hbr.size hb7
        have B1 := Aside0.mk (ho1.base)
        clear HY HOF
        go_wp2_with fail
        refine (close_any w7 _ _ _ _ _ Y7.out (by omega)).mono ?_
        rintro e w8 ⟨r2, s2, rfl, ho2, hl2, hv2, hb8⟩
        have F8 := Aside0.mk (F7.out.below hb8)
        have O1 := Aside0.mk (ho1.below hb8)
        have hb8' := below_then hb7' hb7'.size hb8
        obtain ⟨A1, c1, rfl, q1⟩ := O1.out.reads
        obtain ⟨A2, c2, rfl, q2⟩ := ho2.reads
        have Q2 := Aside0.mk q2
        have hl2' : s2.length ≤ 1000 := by omega
        have hfl : bx.length ≤ 1000 := by have := LX.out; omega
        have ES := Aside0.mk (joined bx s2 s1 q (puts (0, 0) qs).2 V (puts (0, 0) qs).1 F8.out.1 q2.1 q1.1 LX.out hl2 (by rw [hl1]) VX.out (by rw [hv2, VY.out]) (by rw [hv1, HV.out]))
        clear ho1 ho2 q1 q2 hl1 hl2 hv1 hv2 Y7 F7
        go_wp2_with (at_builtin; refine OB.append_g (w0 := w) w.heap.size rfl (.tmp 64) (.tmp 66) 22 5 rfl Try.underlying22 info_u8 rf bx s2 A2 c2 rfl rfl F8.out Q2.out hb8' hb8'.size (by omega) ?_; intro v9 w9 hown9 hbel9 hgr9 hat9)
        obtain ⟨A9, c9, rfl, q9⟩ := hown9.reads
        have Q9 := Aside0.mk q9
        have Q1 := Aside0.mk (show RB w9 A1 s1 from by
          obtain ⟨A1', c1', e1, q1'⟩ := (O1.out.kept hgr9 (by
            rcases hob : (Value.slice A1 s1.length c1).ownBlock with _ | kk
            · exact .inl rfl
            · refine .inr (fun e => ?_)
              have a1 := B1.out kk hob
              have a2 := HLT.out kk e.symm
              omega)).reads
          injection e1 with e1
          subst e1
          exact q1')
        clear hown9 hgr9 hat9 O1 F8 Q2 q9
        refine (same_any w9 A1 A9 c1 c9 s1 (bx ++ s2) Q1.out Q9.out).mono ?_
        rintro e w10 ⟨rfl, rfl⟩
        rw [ES.out]
        clear ES Q1 Q9
        go_wp2_with fail
        go_ret
        exact ⟨rfl, hbel9⟩
  · have ht : ((m : Int) % 8 != 0) = true := by rw [bne_iff_ne]; omega
    go_wp2_with fail
    refine (bits_any w3 _ _ _ _ _ X3.out).mono ?_
    rintro e w4 ⟨rfl, rfl⟩
    go_wp2_with fail
    rw [show (8 - (m : Int) % 8) = ((8 - m % 8 : Nat) : Int) by omega]
    refine (put_any w3 _ gx m 0 (8 - m % 8) vx bx X3.out (by omega) (by omega) (by omega)).mono ?_
    rintro e w4 ⟨rfl, vx4, bx4, hx4, hvx4, hk4, hn4⟩
    obtain ⟨q, hq⟩ : ∃ q, m + (8 - m % 8) = 8 * q := ⟨m / 8 + 1, by omega⟩
    rw [hq] at hx4
    have hq2 : 8 * q ≤ 728 := by omega
    have X4 := Aside0.mk hx4
    have Y4 := Aside0.mk (Y3.out.keep hk4 DXY.out.symm)
    have DXY4 := Aside0.mk (DXY.out.next hn4 Y3.out)
    have VX4 := Aside0.mk (show val bx4 = V by rw [hvx4, VX.out]; simp)
    have HVX := VX4
    have hb4 := hb3'.trans (hk4.below hb3'.size X3.out.foot_base)
    clear hx4 hvx4 hk4 hn4 X3 Y3 DXY VX hb3' hq ht
    go_wp2_with fail
    refine (bytes_any w4 _ _ _ _ _ X4.out (by omega)).mono ?_
    rintro e w5 ⟨rf, rfl, hof, hb5⟩
    have X5 := Aside0.mk (X4.out.below hb5)
    have Y5 := Aside0.mk (Y4.out.below hb5)
    have hb5' := below_then hb4 hb4.size hb5
    have LX := Aside0.mk (show bx4.length = q by rw [X4.out.len]; omega)
    have HLT := Aside0.mk hof.lt
    have SEP5 := Aside0.mk (show Sep gx vx4 (fun i => foot gy vy i ∨ some i = rf.ownBlock) from fun i a b => by
      rcases b with b | b
      · exact DXY4.out i a b
      · have := X4.out.foot_lt i a
        have := hof.base i b.symm
        omega)
    have SLT := Aside0.mk (show ∀ i, (foot gy vy i ∨ some i = rf.ownBlock) → i < w5.heap.size from fun i b => by
      rcases b with b | b
      · exact Y5.out.foot_lt i b
      · exact hof.lt i b.symm)
    have OF5 := Aside0.mk (hof.lower hb4.size)
    clear hof hb5 X4 Y4 DXY4
    go_wp2_with fail
    go_loopw [9] (fun i wr => ∃ k : Nat, k ≤ qs.length ∧ i = .int .i64 k ∧ ∃ v bs, Aside0 (Wr wr w.heap.size gx v bs (puts (V, 8 * q) (qs.take k)).2) ∧ Aside0 (val bs = (puts (V, 8 * q) (qs.take k)).1) ∧
      Aside0 (Sep gx v (fun i => foot gy vy i ∨ some i = rf.ownBlock)) ∧ Aside0 (Wr wr w.heap.size gy vy bY (puts (0, 0) qs).2) ∧ Aside0 (OB wr w.heap.size 5 rf bx4) ∧ Below w.heap.size w wr ∧ w5.heap.size ≤ wr.heap.size) (fun i _ => qs.length - (intOf i).toNat)
    case atStart => exact ⟨0, by omega, rfl, vx4, bx4, X5, VX4, SEP5, Y5, OF5, hb5', Nat.le_refl _⟩
    case round =>
      obtain ⟨k, hk, rfl, v, bs, HW, HV, HSEP, HY, HOF, hbr, hsz⟩ := hrel
      by_cases hlt : k < qs.length
      · obtain ⟨ad, rfl, hw0, hw1⟩ := HQ.out.at_ k hlt
        have hq0 := World.block_lt_of_cell? w _ hw0
        have hc0 := pw_cell_below hbr hw0
        have hc1 := pw_cell_below hbr hw1
        clear hw0 hw1
        obtain ⟨hx, hwf⟩ := HQ.out.get k hlt
        have hlen := puts_len (qs.take k) (V, 8 * q)
        have HS := Aside0.mk (puts_snoc (V, 8 * q) qs k hlt)
        have htl : (qs.take k).length ≤ 60 := by rw [List.length_take]; omega
        generalize qs.getD k (0, 0) = p at *
        obtain ⟨x, n⟩ := p
        dsimp only at hc0 hc1 hx hwf hlen
        have hi := i64_range hwf
        have hm0 : (puts (V, 8 * q) (qs.take k)).2 ≤ 50000 := by omega
        generalize hs : puts (V, 8 * q) (qs.take k) = s at *
        clear hs
        go_wp2_with fail
        go_region_held3 (fun w' => w'.cell? (ad.add (k * 2)) = some (.int .u32 (x : Int)) ∧ w'.cell? ⟨(ad.add (k * 2)).block, (ad.add (k * 2)).off + 1, none⟩ = some (.int .i64 n)) (go_keep)
          (first | (go_at_call 21; refine (put_all _ w.heap.size gx s.2 x n v bs ?_ hm0 hx).mono ?_; (exact HW.out.drew); rintro e w6 ⟨rfl, v6, bs6, hw6, hv6, hk6, hn6⟩; have hd := hk6.below (B := w.heap.size) (by exact hbr.size) (by exact HW.out.foot_base); have hd0 := below_cell_drew hd hq0 hc0; have hd1 := below_cell_drew (p := ⟨(ad.add (k * 2)).block, (ad.add (k * 2)).off + 1, none⟩) hd hq0 hc1))
        have e1 : (val bs, s.2) = s := by rw [HV.out]
        rw [e1] at hw6 hv6
        have R1 := Aside0.mk (show Wr w6 w.heap.size gx v6 bs6 (puts (V, 8 * q) (qs.take (k + 1))).2 by rw [HS.out]; exact hw6)
        have R2 := Aside0.mk (show val bs6 = (puts (V, 8 * q) (qs.take (k + 1))).1 by rw [HS.out]; exact hv6)
        have R3 := Aside0.mk (HSEP.out.next hn6 (fun i b => by have := SLT.out i b; exact Nat.lt_of_lt_of_le this hsz))
        have R4 := Aside0.mk (HY.out.drew.keep hk6 (fun i a b => HSEP.out i b (.inl a)))
        have R5 := Aside0.mk (HOF.out.drew.keep hk6 (fun kk a b => HSEP.out kk b (.inr a.symm)))
        have hbr2 := hbr.drew.trans hd
        have hsz2 : w5.heap.size ≤ w6.heap.size := Nat.le_trans hsz hk6.size
        clear hw6 hv6 hk6 hn6 hd hd0 hd1 hc0 hc1 e1 HW HV HSEP HY HOF
        go_wp2_with fail
        go_roundw
        case rel => exact ⟨k + 1, by omega, by go_num, v6, bs6, R1, R2, R3, R4, R5, hbr2, hsz2⟩
        case measure => simp [intOf]; omega
      · obtain rfl : k = qs.length := by omega
        rw [List.take_length, shift] at HW HV
        have hml : 8 * q + (puts (0, 0) qs).2 ≤ 2000 := by omega
        dsimp only at HW HV
        clear X5 Y5 VX4
        go_wp2_with fail
        refine (close_any wr _ _ _ _ _ HW.out (by omega)).mono ?_
        rintro e w7 ⟨r1, s1, rfl, ho1, hl1, hv1, hb7⟩
        have Y7 := Aside0.mk (HY.out.below hb7)
        have F7 := Aside0.mk (HOF.out.below hb7)
        have hb7' := below_then hbr hbr.size hb7
        have B1 := Aside0.mk (ho1.base)
        clear HY HOF
        go_wp2_with fail
        refine (close_any w7 _ _ _ _ _ Y7.out (by omega)).mono ?_
        rintro e w8 ⟨r2, s2, rfl, ho2, hl2, hv2, hb8⟩
        have F8 := Aside0.mk (F7.out.below hb8)
        have O1 := Aside0.mk (ho1.below hb8)
        have hb8' := below_then hb7' hb7'.size hb8
        obtain ⟨A1, c1, rfl, q1⟩ := O1.out.reads
        obtain ⟨A2, c2, rfl, q2⟩ := ho2.reads
        have Q2 := Aside0.mk q2
        have hl2' : s2.length ≤ 1000 := by omega
        have hfl : bx4.length ≤ 1000 := by have := LX.out; omega
        have ES := Aside0.mk (joined bx4 s2 s1 q (puts (0, 0) qs).2 V (puts (0, 0) qs).1 F8.out.1 q2.1 q1.1 LX.out hl2 (by rw [hl1]) HVX.out (by rw [hv2, VY.out]) (by rw [hv1, HV.out]))
        clear ho1 ho2 q1 q2 hl1 hl2 hv1 hv2 Y7 F7
        go_wp2_with (at_builtin; refine OB.append_g (w0 := w) w.heap.size rfl (.tmp 64) (.tmp 66) 22 5 rfl Try.underlying22 info_u8 rf bx4 s2 A2 c2 rfl rfl F8.out Q2.out hb8' hb8'.size (by omega) ?_; intro v9 w9 hown9 hbel9 hgr9 hat9)
        obtain ⟨A9, c9, rfl, q9⟩ := hown9.reads
        have Q9 := Aside0.mk q9
        have Q1 := Aside0.mk (show RB w9 A1 s1 from by
          obtain ⟨A1', c1', e1, q1'⟩ := (O1.out.kept hgr9 (by
            rcases hob : (Value.slice A1 s1.length c1).ownBlock with _ | kk
            · exact .inl rfl
            · refine .inr (fun e => ?_)
              have a1 := B1.out kk hob
              have a2 := HLT.out kk e.symm
              omega)).reads
          injection e1 with e1
          subst e1
          exact q1')
        clear hown9 hgr9 hat9 O1 F8 Q2 q9
        refine (same_any w9 A1 A9 c1 c9 s1 (bx4 ++ s2) Q1.out Q9.out).mono ?_
        rintro e w10 ⟨rfl, rfl⟩
        rw [ES.out]
        clear ES Q1 Q9
        go_wp2_with fail
        go_ret
        exact ⟨rfl, hbel9⟩

theorem joins_walk (a0 : Option Addr) (len0 cap0 : Nat) (z0 : List (Nat × Int)) (a1 : Option Addr) (len1 cap1 : Nat) (z1 : List (Nat × Int)) (w : World) (w0 : len0 = z0.length ∧ RP w a0 z0) (w1 : len1 = z1.length ∧ RP w a1 z1) :
    Calls Try.prog 10 #[.slice a0 len0 cap0, .slice a1 len1 cap1] w fun e w' => e = .returned (.bool true) ∧ Below w.heap.size w w' := by
  obtain ⟨rfl, hr⟩ := w0
  obtain ⟨rfl, hr'⟩ := w1
  by_cases h : 30 < z0.length ∨ 30 < z1.length
  · exact joins_long cap0 cap1 a0 a1 _ _ w h
  · exact joins_short cap0 cap1 a0 a1 z0 z1 w hr hr' (by omega) (by omega)
end Go.Proofs.Ytohgkdiagekmbaa.Bitw
