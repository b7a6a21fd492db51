/- Proved here: the law DirMore returns true for every input and changes nothing that was there. Conditions: none. -/
import Derived.Test.YtdgomddbppgkmaaDirIns
namespace Go.Proofs.Ytdgomddbppgkmaa.Dir
open Go.RowKit Go.Proofs.YtdgomddbppgkmaaW.PrintWords Go.Proofs.Ytdgomddbppgkmaa.CrcM Go.Proofs.Ytdgomddbppgkmaa.BitsM Go.Proofs.Ytdgomddbppgkmaa.Base Go.Proofs.Ytdgomddbppgkmaa.Bitw Go.Proofs.Ytdgomddbppgkmaa.DirM

set_option maxRecDepth 100000 in
set_option maxHeartbeats 400000 in
theorem more_out (c : Nat) (A : Option Addr) (l : Nat) (C : Int) (w : World) (h : l = 0 ∨ 100 < l) :
    Calls Try.prog 11 #[.slice A l c, .int .u8 C] w fun e w' => e = .returned (.bool true) ∧ Below w.heap.size w w' := by
  by_cases h1 : l = 0
  · subst h1
    go_enter Try.func11, Try.ntmps11
    go_wp2_with (go_at_call 18; refine (awake_any _).mono ?_; rintro e w1 ⟨rfl, hb1⟩)
    go_ret
    exact ⟨rfl, hb1⟩
  have b1 : ((l : Int) == 0) = false := by rw [beq_eq_false_iff_ne]; omega
  have h2 : 100 < l := by omega
  have d2 : decide ((100 : Int) < (l : Int)) = true := by simp; omega
  clear h
  go_enter Try.func11, Try.ntmps11
  go_wp2_with (go_at_call 18; refine (awake_any _).mono ?_; rintro e w1 ⟨rfl, hb1⟩)
  go_ret
  exact ⟨rfl, hb1⟩
theorem or_value (y C : Nat) (hy : y < 256) : bits .or .u8 (y : Int) (2 ^ (C % 8) % 256) = ((y ||| 2 ^ (C % 8) : Nat) : Int) := by
  have hp : 2 ^ (C % 8) ≤ 2 ^ 7 := Nat.pow_le_pow_right (by omega) (by omega)
  have e : ((2 : Int) ^ (C % 8) % 256) = ((2 ^ (C % 8) : Nat) : Int) := by
    have e1 : ((2 : Int) ^ (C % 8)) = ((2 ^ (C % 8) : Nat) : Int) := by simp
    rw [e1]; generalize 2 ^ (C % 8) = q at *; omega
  rw [e]
  exact u8_or_nat y _ hy (by omega)
theorem ob_rb {w : World} {base n g cap : Nat} {e : TypeId} {bs : List Nat} (h : OB w base e (.slice (some ⟨g, 0, none⟩) n cap) bs) : RB w (some ⟨g, 0, none⟩) bs := by
  obtain ⟨A, c, e, hr⟩ := h.reads
  injection e with e1 e2 e3
  rw [e1]; exact hr
set_option maxRecDepth 100000 in
set_option maxHeartbeats 4000000 in
theorem more_in (c : Nat) (A : Option Addr) (bs : List Nat) (C : Nat) (w : World) (hr : RB w A bs) (hC : C < 256) (h0 : 0 < bs.length) (h1 : bs.length ≤ 100) :
    Calls Try.prog 11 #[.slice A bs.length c, .int .u8 (C : Int)] w fun e w' => e = .returned (.bool true) ∧ Below w.heap.size w w' := by
  have HR := Aside0.mk hr
  obtain ⟨p, hp⟩ : ∃ p, mt bs bs.length = p := ⟨_, rfl⟩
  have hp0 : p 0 = true := by rw [← hp]; exact mt_zero bs h0
  have hpres : present bs = pl p 256 := by rw [present, hp]
  have HP0 := Aside0.mk hp0
  have HPR := Aside0.mk hpres
  have b1 : ((bs.length : Int) == 0) = false := by rw [beq_eq_false_iff_ne]; omega
  have d2 : decide ((100 : Int) < (bs.length : Int)) = false := by simp; omega
  clear hr hp hp0 hpres
  go_enter Try.func11, Try.ntmps11
  go_wp2_with (go_at_call 18; refine (awake_any _).mono ?_; rintro e w1 ⟨rfl, hb1⟩)
  refine (present_any w1 A c bs (HR.out.below hb1) (by omega)).mono ?_
  rintro e w2 ⟨v, rfl, ho, hb2⟩
  have HB2 := Aside0.mk (below_then hb1 hb1.size hb2)
  rw [HPR.out] at ho
  have hLn : (pl p 256).length ≤ 256 := by
    have := List.length_filter_le p (List.range 256)
    rw [List.length_range] at this
    exact this
  have hput := put_pl p HP0.out
  have hok := ok_pl p HP0.out
  have HE := Aside0.mk (gathEnd_eq p C hC)
  have HPW := Aside0.mk (pl_pair p 256)
  have HML := Aside0.mk (fun j => mem_pl p 256 j)
  obtain ⟨L, hL⟩ : ∃ L, pl p 256 = L := ⟨_, rfl⟩
  rw [hL] at ho hLn hput hok HE HPW HML
  have HL := Aside0.mk hL
  clear hL
  obtain ⟨Av, cv, rfl, q⟩ := NI.reads ho
  have hpc := dput_any w2 Av cv (zl L) q (by rw [zl_len]; omega)
  rw [zl_len, hok, hput] at hpc
  have HPUT := Aside0.mk hpc
  have Q := Aside0.mk q
  clear ho q hb2 hb1 hpc hok hput
  go_wp2_with fail
  refine HPUT.out.mono ?_
  rintro e w3 ⟨v3, rfl, ho3, hb3⟩
  have hbase := OB.base ho3
  obtain ⟨g, c3, rfl, hc3, q3⟩ := ob_form2 ho3 (n := 32) (put32_len _) (by omega)
  have hgb : w2.heap.size ≤ g := hbase g rfl
  have HB3 := Aside0.mk (below_then HB2.out HB2.out.size hb3)
  have HO3 := Aside0.mk ho3
  have HQ := Aside0.mk (Q.out.below hb3)
  have HG := Aside0.mk (Nat.le_trans HB2.out.size hgb)
  clear ho3 hb3 q3 hbase hgb HPUT Q
  go_wp2_with fail
  go_loopw [9, 10, 11, 12] (fun vi vm vp i wr => ∃ (k : Nat) (a b : Bool), k ≤ L.length ∧ i = .int .i64 k ∧ vi = .bool a ∧ vp = .bool b ∧ Aside0 (a = inA C (L.take k) ∧ b = putA L C (L.take k) ∧ NI wr w3.heap.size vm (gath L C (L.take k)) ∧ Below w3.heap.size w3 wr)) (fun _ _ _ i _ => L.length - (intOf i).toNat)
  case atStart => exact ⟨0, false, false, by omega, rfl, rfl, rfl, ⟨by simp [inA], by simp [putA], by rw [List.take_zero, gath_nil]; exact nil_row _ _, Below.refl _ _⟩⟩
  case round =>
    obtain ⟨k, a, b, hk, rfl, rfl, rfl, HK⟩ := hrel
    by_cases hlt : k < L.length
    · obtain ⟨ad, eA, hck⟩ := (HQ.out.below HK.out.2.2.2).at_ k (by rw [zl_len]; exact hlt)
      subst eA
      have hgk : L.getD k 0 = L[k] := by rw [List.getD_eq_getElem?_getD, List.getElem?_eq_getElem hlt]; rfl
      rw [zl_getD, hgk] at hck
      have hckA : ∀ W : World, Below w3.heap.size w3 W → W.cell? (ad.add k) = some (.int .i64 ((L[k] : Nat) : Int)) := fun W hW => by
        obtain ⟨ad', eA', hck'⟩ := (HQ.out.below hW).at_ k (by rw [zl_len]; exact hlt)
        rw [zl_getD, hgk] at hck'
        injection eA' with eA'
        rw [eA']; exact hck'
      have hPx := take_lt HPW.out k hlt
      have hin := in_later HPW.out k hlt C
      have hsn := take_snoc L k hlt
      have hm : L[k] ∈ L := List.getElem_mem hlt
      have hPL : ∀ j ∈ L.take k, j ∈ L := fun j hj => List.mem_of_mem_take hj
      have hx256 : L[k] < 256 := ((HML.out L[k]).1 hm).1
      have hgl : (gath L C (L.take k)).length ≤ 600 := by
        unfold gath
        have h1 := List.length_filter_le (fun j => decide (j < C)) (L.take k)
        have h2 := List.length_filter_le (fun j => decide (C < j)) (L.take k)
        have h3 : (L.take k).length ≤ 256 := by rw [List.length_take]; omega
        split
        · omega
        · rw [List.length_append, List.length_append]
          split
          · rw [List.length_singleton]; omega
          · rw [List.length_nil]; omega
      obtain ⟨ha, hb, hni, hbl⟩ := HK.out
      have hgl2 : (gath L C (L.take k) ++ [C]).length ≤ 601 := by rw [List.length_append, List.length_singleton]; omega
      generalize L[k] = x at *
      generalize L.take k = P at *
      have HT := Aside0.mk hsn
      have HCK := Aside0.mk hckA
      have HW := Aside0.mk (And.intro hni hbl)
      have HF := Aside0.mk (And.intro hPx (And.intro hin (And.intro hm hPL)))
      have HAB := Aside0.mk (And.intro ha hb)
      clear HK hsn hckA hni hbl hPx hin hm hPL ha hb hgk
      by_cases hxC : x ≤ C
      · have HX := Aside0.mk (gath_le (C := C) HF.out.1 HF.out.2.2.1 hxC)
        have hd1 : decide (C < x) = false := by simp; omega
        have hd2 : decide ((C : Int) < (x : Int)) = false := by simp; omega
        by_cases hxe : x = C
        · obtain ⟨hxe2⟩ : PLift (C = x) := ⟨hxe.symm⟩
          clear hxe
          subst hxe2
          go_wp2_with (at_builtin; refine ni_append (w0 := w3) w3.heap.size rfl (.tmp 65) (.tmp 70) 33 rfl Try.underlying33 info_int _ (gath L C P) C rfl rfl HW.out.1 HW.out.2 HW.out.2.size (by omega) ?_; intro v1 w4 hown1 hbel1 hgr1; have HO1 := Aside0.mk (And.intro hown1 hbel1); clear hown1 hbel1 hgr1)
          go_roundw
          case rel => exact ⟨k + 1, true, b, by omega, by go_num, rfl, rfl, ⟨by rw [HT.out, inA_snoc]; simp, by rw [HT.out, HX.out.2]; exact HAB.out.2, by rw [HT.out, HX.out.1]; exact HO1.out.1, HO1.out.2⟩⟩
          case measure => simp [intOf]; omega
        · have hbe : ((x : Int) == (C : Int)) = false := by rw [beq_eq_false_iff_ne]; omega
          have hie : ¬ (x : Int) = (C : Int) := by omega
          go_wp2_with (at_builtin; refine ni_append (w0 := w3) w3.heap.size rfl (.tmp 65) (.tmp 70) 33 rfl Try.underlying33 info_int _ (gath L C P) x rfl rfl HW.out.1 HW.out.2 HW.out.2.size (by omega) ?_; intro v1 w4 hown1 hbel1 hgr1; have HO1 := Aside0.mk (And.intro hown1 hbel1); clear hown1 hbel1 hgr1)
          go_roundw
          case rel => exact ⟨k + 1, a, b, by omega, by go_num, rfl, rfl, ⟨by rw [HT.out, inA_snoc, HAB.out.1]; simp; omega, by rw [HT.out, HX.out.2]; exact HAB.out.2, by rw [HT.out, HX.out.1]; exact HO1.out.1, HO1.out.2⟩⟩
          case measure => simp [intOf]; omega
      · have hxg : C < x := by omega
        have hd1 : decide (C < x) = true := by simp; omega
        have hd2 : decide ((C : Int) < (x : Int)) = true := by simp; omega
        have hbe : ((x : Int) == (C : Int)) = false := by rw [beq_eq_false_iff_ne]; omega
        have hie : ¬ (x : Int) = (C : Int) := by omega
        have hnc : decide (C = x) = false := by simp; omega
        cases hav : a
        · cases hbv : b
          · have HX := Aside0.mk (gath_put (C := C) (fun h => HF.out.2.1 h hxg) hxg (HAB.out.1.symm.trans hav) (HAB.out.2.symm.trans hbv))
            have HAV := Aside0.mk (HAB.out.1.symm.trans hav)
            subst hav hbv
            go_wp2_with (at_builtin; first | (refine ni_append (w0 := w3) w3.heap.size rfl (.tmp 60) (.tmp 63) 33 rfl Try.underlying33 info_int _ (gath L C P) C rfl rfl HW.out.1 HW.out.2 HW.out.2.size (by omega) ?_; intro v0 w5 hown0 hbel0 hgr0; have HO0 := Aside0.mk (And.intro hown0 hbel0); have hck5 := HCK.out _ hbel0; clear hown0 hbel0 hgr0) | (refine ni_append (w0 := w3) w3.heap.size rfl (.tmp 65) (.tmp 70) 33 rfl Try.underlying33 info_int _ (gath L C P ++ [C]) x rfl rfl HO0.out.1 HO0.out.2 HO0.out.2.size (by omega) ?_; intro v1 w4 hown1 hbel1 hgr1; have HO1 := Aside0.mk (And.intro hown1 hbel1); clear hown1 hbel1 hgr1))
            go_roundw
            case rel => exact ⟨k + 1, false, true, by omega, by go_num, rfl, rfl, ⟨by rw [HT.out, inA_snoc, HAV.out, hnc]; rfl, by rw [HT.out, HX.out.2], by rw [HT.out, HX.out.1]; exact HO1.out.1, HO1.out.2⟩⟩
            case measure => simp [intOf]; omega
          · have HX := Aside0.mk (gath_gt (C := C) HF.out.2.2.2 hxg (.inr (HAB.out.2.symm.trans hbv)))
            have HAV := Aside0.mk (And.intro (HAB.out.1.symm.trans hav) (HAB.out.2.symm.trans hbv))
            subst hav hbv
            go_wp2_with (at_builtin; refine ni_append (w0 := w3) w3.heap.size rfl (.tmp 65) (.tmp 70) 33 rfl Try.underlying33 info_int _ (gath L C P) x rfl rfl HW.out.1 HW.out.2 HW.out.2.size (by omega) ?_; intro v1 w4 hown1 hbel1 hgr1; have HO1 := Aside0.mk (And.intro hown1 hbel1); clear hown1 hbel1 hgr1)
            go_roundw
            case rel => exact ⟨k + 1, false, true, by omega, by go_num, rfl, rfl, ⟨by rw [HT.out, inA_snoc, HAV.out.1, hnc]; rfl, by rw [HT.out, HX.out.2, HAV.out.2], by rw [HT.out, HX.out.1]; exact HO1.out.1, HO1.out.2⟩⟩
            case measure => simp [intOf]; omega
        · have HX := Aside0.mk (gath_gt (C := C) HF.out.2.2.2 hxg (.inl (HAB.out.1.symm.trans hav)))
          have HAV := Aside0.mk (And.intro (HAB.out.1.symm.trans hav) HAB.out.2)
          subst hav
          go_wp2_with (at_builtin; refine ni_append (w0 := w3) w3.heap.size rfl (.tmp 65) (.tmp 70) 33 rfl Try.underlying33 info_int _ (gath L C P) x rfl rfl HW.out.1 HW.out.2 HW.out.2.size (by omega) ?_; intro v1 w4 hown1 hbel1 hgr1; have HO1 := Aside0.mk (And.intro hown1 hbel1); clear hown1 hbel1 hgr1)
          go_roundw
          case rel => exact ⟨k + 1, true, b, by omega, by go_num, rfl, rfl, ⟨by rw [HT.out, inA_snoc, HAV.out.1, hnc]; rfl, by rw [HT.out, HX.out.2]; exact HAV.out.2, by rw [HT.out, HX.out.1]; exact HO1.out.1, HO1.out.2⟩⟩
          case measure => simp [intOf]; omega
    · obtain rfl : k = L.length := by omega
      obtain ⟨ha, hb, hni, hbl⟩ := HK.out
      rw [List.take_length] at ha hb hni
      have hend := HE.out
      have hML := HML.out C
      have hwp : with1 p C 0 = true := by simp [with1, HP0.out]
      have hokM := ok_pl _ hwp
      have hpuM := put_pl _ hwp
      have hMn : (pl (with1 p C) 256).length ≤ 256 := by
        have := List.length_filter_le (with1 p C) (List.range 256)
        rw [List.length_range] at this
        exact this
      have hh2 := has_put (with1 p C) C hC
      have hh1 := has_put p C hC
      have hset := set_put p C hC
      have hld := put32_len (sumL (pl p 256))
      have hle := put32_len (sumL (pl (with1 p C) 256))
      rw [show with1 p C C = true from by simp [with1]] at hh2
      have hpa : p C = a := by
        rw [ha, inA, Bool.eq_iff_iff]
        simp only [decide_eq_true_eq]
        exact ⟨fun h => hML.2 ⟨hC, h⟩, fun h => (hML.1 h).2⟩
      rw [hpa] at hh1
      generalize pl (with1 p C) 256 = M at *
      rw [HL.out] at hh1 hset hld
      generalize put32 (sumL L) = D at *
      generalize hE : put32 (sumL M) = E at *
      have HM := Aside0.mk (And.intro hokM hpuM)
      have HH := Aside0.mk (And.intro hh1 hh2)
      have HSET := Aside0.mk hset
      have HLD := Aside0.mk hld
      have HLE := Aside0.mk hle
      have HEND := Aside0.mk hend
      have HAB := Aside0.mk (And.intro ha hb)
      clear HK hend hML hwp hokM hpuM hh1 hh2 hset hld hle hpa ha hb hE HE HML HPW HL HPR
      cases hav : a
      · cases hbv : b
        · subst hav hbv
          have hM2 : gath L C L ++ [C] = M := by
            have h := HEND.out
            rw [gathEnd, if_pos ⟨HAB.out.1.symm, HAB.out.2.symm⟩] at h
            exact h
          have hgl : (gath L C L).length ≤ 256 := by rw [← hM2, List.length_append] at hMn; omega
          have HW := Aside0.mk (And.intro hni (And.intro hbl hM2))
          clear hM2 HEND HAB hni hbl
          go_wp2_with (at_builtin; refine ni_append (w0 := w3) w3.heap.size rfl (.tmp 78) (.tmp 81) 33 rfl Try.underlying33 info_int _ (gath L C L) C rfl rfl HW.out.1 HW.out.2.1 HW.out.2.1.size (by omega) ?_; intro v1 w4 hown1 hbel1 hgr1; rw [HW.out.2.2] at hown1; have HO1 := Aside0.mk (And.intro hown1 hbel1); clear hown1 hbel1 hgr1)
          obtain ⟨Am, cm, rfl, qm⟩ := NI.reads HO1.out.1
          have hblW := HO1.out.2
          have hpm := dput_any w4 Am cm (zl M) qm (by rw [zl_len]; omega)
          rw [zl_len, HM.out.1, HM.out.2] at hpm
          refine hpm.mono ?_
          clear hpm
          rintro e w6 ⟨v6, rfl, ho6, hb6⟩
          have hbs6 := OB.base ho6
          obtain ⟨ge, c6, rfl, hc6, -⟩ := ob_form2 ho6 (n := 32) HLE.out (by omega)
          have hge : w4.heap.size ≤ ge := hbs6 ge rfl
          have HB6 := Aside0.mk (below_then hblW hblW.size hb6)
          have HO6 := Aside0.mk ho6
          clear hbs6 ho6 hb6
          have hh1 := has_any w6 (some ⟨g, 0, none⟩) c3 D (C : Int) (ob_rb (HO3.out.below HB6.out)) (by rw [HLD.out]; exact hc3)
          rw [HLD.out, HH.out.1] at hh1
          have HH1 := Aside0.mk hh1
          clear hh1
          go_wp2_with fail
          refine HH1.out.mono ?_
          rintro e w7 ⟨rfl, hb7⟩
          have HB7 := Aside0.mk (below_then HB6.out HB6.out.size hb7)
          have HO7 := Aside0.mk (HO6.out.below hb7)
          have hh2 := has_any w7 (some ⟨ge, 0, none⟩) c6 E (C : Int) (ob_rb HO7.out) (by rw [HLE.out]; exact hc6)
          rw [HLE.out, HH.out.2] at hh2
          have HH2 := Aside0.mk hh2
          clear hh2 hb7
          go_wp2_with fail
          refine HH2.out.mono ?_
          rintro e w8 ⟨rfl, hb8⟩
          have HB8 := Aside0.mk (below_then HB7.out HB7.out.size hb8)
          have HO8 := Aside0.mk (HO7.out.below hb8)
          have HD8 := Aside0.mk (HO3.out.below HB8.out)
          obtain ⟨hy1, hy2⟩ := HD8.out.at' HLD.out (C / 8) (by omega)
          clear hb8
          go_wp2_with fail
          have hy8 : D.getD (C / 8) 0 < 256 := (ob_rb HD8.out).lt (C / 8)
          rw [← List.getD_eq_getElem?_getD, or_value _ C hy8]
          have P1 := HD8.out.store' HLD.out (C / 8) _ HSET.out.2
          rw [HSET.out.1] at P1
          have hgl : g < w3.heap.size := OB.lt HO3.out g rfl
          have hne : some g ≠ (Value.slice (some ⟨ge, 0, none⟩) 32 c6).ownBlock := fun e => by
            have e' : g = ge := by injection e
            have := hblW.size
            omega
          have hs := same_any _ (some ⟨g, 0, none⟩) (some ⟨ge, 0, none⟩) c3 c6 E E (ob_rb P1.1) (ob_rb (show OB _ _ _ _ E from ⟨HO8.out.1, own_setCell HO8.out.2 (p := ⟨g, C / 8, none⟩) hne (.int .u8 ((D.getD (C / 8) 0 ||| 2 ^ (C % 8) : Nat) : Int))⟩))
          rw [HLE.out, beq_self_eq_true] at hs
          have HS := Aside0.mk hs
          have HBE := Aside0.mk ((below_then HB3.out HB3.out.size HB8.out).grown P1.2 (Nat.le_trans HB3.out.size HB8.out.size) (fun i e => by injection e with e; rw [← e]; exact HG.out))
          clear P1 hs hy1 hy2
          refine HS.out.mono ?_
          rintro e w9 ⟨rfl, rfl⟩
          go_wp2_with fail
          go_ret
          exact ⟨rfl, HBE.out⟩
        · subst hav hbv
          have hM2 : gath L C L = M := by
            have h := HEND.out
            rw [gathEnd, if_neg (by rw [← HAB.out.2]; simp), List.append_nil] at h
            exact h
          rw [hM2] at hni
          obtain ⟨Am, cm, rfl, qm⟩ := NI.reads hni
          have hblW := hbl
          clear hM2 HEND HAB
          go_wp2_with fail
          have hpm := dput_any wr Am cm (zl M) qm (by rw [zl_len]; omega)
          rw [zl_len, HM.out.1, HM.out.2] at hpm
          refine hpm.mono ?_
          clear hpm
          rintro e w6 ⟨v6, rfl, ho6, hb6⟩
          have hbs6 := OB.base ho6
          obtain ⟨ge, c6, rfl, hc6, -⟩ := ob_form2 ho6 (n := 32) HLE.out (by omega)
          have hge : wr.heap.size ≤ ge := hbs6 ge rfl
          have HB6 := Aside0.mk (below_then hblW hblW.size hb6)
          have HO6 := Aside0.mk ho6
          clear hbs6 ho6 hb6
          have hh1 := has_any w6 (some ⟨g, 0, none⟩) c3 D (C : Int) (ob_rb (HO3.out.below HB6.out)) (by rw [HLD.out]; exact hc3)
          rw [HLD.out, HH.out.1] at hh1
          have HH1 := Aside0.mk hh1
          clear hh1
          go_wp2_with fail
          refine HH1.out.mono ?_
          rintro e w7 ⟨rfl, hb7⟩
          have HB7 := Aside0.mk (below_then HB6.out HB6.out.size hb7)
          have HO7 := Aside0.mk (HO6.out.below hb7)
          have hh2 := has_any w7 (some ⟨ge, 0, none⟩) c6 E (C : Int) (ob_rb HO7.out) (by rw [HLE.out]; exact hc6)
          rw [HLE.out, HH.out.2] at hh2
          have HH2 := Aside0.mk hh2
          clear hh2 hb7
          go_wp2_with fail
          refine HH2.out.mono ?_
          rintro e w8 ⟨rfl, hb8⟩
          have HB8 := Aside0.mk (below_then HB7.out HB7.out.size hb8)
          have HO8 := Aside0.mk (HO7.out.below hb8)
          have HD8 := Aside0.mk (HO3.out.below HB8.out)
          obtain ⟨hy1, hy2⟩ := HD8.out.at' HLD.out (C / 8) (by omega)
          clear hb8
          go_wp2_with fail
          have hy8 : D.getD (C / 8) 0 < 256 := (ob_rb HD8.out).lt (C / 8)
          rw [← List.getD_eq_getElem?_getD, or_value _ C hy8]
          have P1 := HD8.out.store' HLD.out (C / 8) _ HSET.out.2
          rw [HSET.out.1] at P1
          have hgl : g < w3.heap.size := OB.lt HO3.out g rfl
          have hne : some g ≠ (Value.slice (some ⟨ge, 0, none⟩) 32 c6).ownBlock := fun e => by
            have e' : g = ge := by injection e
            have := hblW.size
            omega
          have hs := same_any _ (some ⟨g, 0, none⟩) (some ⟨ge, 0, none⟩) c3 c6 E E (ob_rb P1.1) (ob_rb (show OB _ _ _ _ E from ⟨HO8.out.1, own_setCell HO8.out.2 (p := ⟨g, C / 8, none⟩) hne (.int .u8 ((D.getD (C / 8) 0 ||| 2 ^ (C % 8) : Nat) : Int))⟩))
          rw [HLE.out, beq_self_eq_true] at hs
          have HS := Aside0.mk hs
          have HBE := Aside0.mk ((below_then HB3.out HB3.out.size HB8.out).grown P1.2 (Nat.le_trans HB3.out.size HB8.out.size) (fun i e => by injection e with e; rw [← e]; exact HG.out))
          clear P1 hs hy1 hy2
          refine HS.out.mono ?_
          rintro e w9 ⟨rfl, rfl⟩
          go_wp2_with fail
          go_ret
          exact ⟨rfl, HBE.out⟩
      · subst hav
        · have hM2 : gath L C L = M := by
            have h := HEND.out
            rw [gathEnd, if_neg (by rw [← HAB.out.1]; simp), List.append_nil] at h
            exact h
          rw [hM2] at hni
          obtain ⟨Am, cm, rfl, qm⟩ := NI.reads hni
          have hblW := hbl
          clear hM2 HEND HAB
          go_wp2_with fail
          have hpm := dput_any wr Am cm (zl M) qm (by rw [zl_len]; omega)
          rw [zl_len, HM.out.1, HM.out.2] at hpm
          refine hpm.mono ?_
          clear hpm
          rintro e w6 ⟨v6, rfl, ho6, hb6⟩
          have hbs6 := OB.base ho6
          obtain ⟨ge, c6, rfl, hc6, -⟩ := ob_form2 ho6 (n := 32) HLE.out (by omega)
          have hge : wr.heap.size ≤ ge := hbs6 ge rfl
          have HB6 := Aside0.mk (below_then hblW hblW.size hb6)
          have HO6 := Aside0.mk ho6
          clear hbs6 ho6 hb6
          have hh1 := has_any w6 (some ⟨g, 0, none⟩) c3 D (C : Int) (ob_rb (HO3.out.below HB6.out)) (by rw [HLD.out]; exact hc3)
          rw [HLD.out, HH.out.1] at hh1
          have HH1 := Aside0.mk hh1
          clear hh1
          go_wp2_with fail
          refine HH1.out.mono ?_
          rintro e w7 ⟨rfl, hb7⟩
          have HB7 := Aside0.mk (below_then HB6.out HB6.out.size hb7)
          have HO7 := Aside0.mk (HO6.out.below hb7)
          have hh2 := has_any w7 (some ⟨ge, 0, none⟩) c6 E (C : Int) (ob_rb HO7.out) (by rw [HLE.out]; exact hc6)
          rw [HLE.out, HH.out.2] at hh2
          have HH2 := Aside0.mk hh2
          clear hh2 hb7
          go_wp2_with fail
          refine HH2.out.mono ?_
          rintro e w8 ⟨rfl, hb8⟩
          have HB8 := Aside0.mk (below_then HB7.out HB7.out.size hb8)
          have HO8 := Aside0.mk (HO7.out.below hb8)
          have HD8 := Aside0.mk (HO3.out.below HB8.out)
          obtain ⟨hy1, hy2⟩ := HD8.out.at' HLD.out (C / 8) (by omega)
          clear hb8
          go_wp2_with fail
          have hy8 : D.getD (C / 8) 0 < 256 := (ob_rb HD8.out).lt (C / 8)
          rw [← List.getD_eq_getElem?_getD, or_value _ C hy8]
          have P1 := HD8.out.store' HLD.out (C / 8) _ HSET.out.2
          rw [HSET.out.1] at P1
          have hgl : g < w3.heap.size := OB.lt HO3.out g rfl
          have hne : some g ≠ (Value.slice (some ⟨ge, 0, none⟩) 32 c6).ownBlock := fun e => by
            have e' : g = ge := by injection e
            have := hblW.size
            omega
          have hs := same_any _ (some ⟨g, 0, none⟩) (some ⟨ge, 0, none⟩) c3 c6 E E (ob_rb P1.1) (ob_rb (show OB _ _ _ _ E from ⟨HO8.out.1, own_setCell HO8.out.2 (p := ⟨g, C / 8, none⟩) hne (.int .u8 ((D.getD (C / 8) 0 ||| 2 ^ (C % 8) : Nat) : Int))⟩))
          rw [HLE.out, beq_self_eq_true] at hs
          have HS := Aside0.mk hs
          have HBE := Aside0.mk ((below_then HB3.out HB3.out.size HB8.out).grown P1.2 (Nat.le_trans HB3.out.size HB8.out.size) (fun i e => by injection e with e; rw [← e]; exact HG.out))
          clear P1 hs hy1 hy2
          refine HS.out.mono ?_
          rintro e w9 ⟨rfl, rfl⟩
          go_wp2_with fail
          go_ret
          exact ⟨rfl, HBE.out⟩
theorem more_walk (a0 : Option Addr) (len0 cap0 : Nat) (z0 : List Int) (a1 : Int) (w : World) (w0 : IsRow .u8 w a0 len0 cap0 z0) (_y0 : len0 * 1 ≤ 140737488351232) (w1 : (Lit.int .u8 a1).wf = true) :
    Calls Try.prog 11 #[.slice a0 len0 cap0, .int .u8 a1] w fun e w' => e = .returned (.bool true) ∧ Below w.heap.size w w' := by
  obtain ⟨bs, rfl, hr, _⟩ := RB.of_row w0
  have hx := u8_range w1
  obtain ⟨C, rfl⟩ : ∃ C : Nat, a1 = C := ⟨a1.toNat, by omega⟩
  by_cases h : bs.length = 0 ∨ 100 < bs.length
  · exact more_out cap0 a0 _ _ w h
  · exact more_in cap0 a0 bs C w hr (by omega) (by omega) (by omega)
end Go.Proofs.Ytdgomddbppgkmaa.Dir
