/- Proved here: what the reference's Put of directories computes: the same bytes. Conditions: each theorem's own. -/
import Derived.Test.YtdgomddbppgkmaaDirPutW
namespace Go.Proofs.Ytdgomddbppgkmaa.Dir
open Go.RowKit Go.Proofs.YtdgomddbppgkmaaW.PrintWords Go.Proofs.Ytdgomddbppgkmaa.CrcM Go.Proofs.Ytdgomddbppgkmaa.BitsM Go.Proofs.Ytdgomddbppgkmaa.Base Go.Proofs.Ytdgomddbppgkmaa.Bitw Go.Proofs.Ytdgomddbppgkmaa.DirM

theorem below_q {B : Nat} {w0 w : World} (h : Below B w0 w) (n : Nat) : Below B w0 (w.drewN n) := ⟨h.os, h.tape, h.output, h.size, h.block⟩
theorem bad_neg {zs : List Int} {k : Nat} (h : Gd zs k) (hx : zs.getD k 0 < 0) : bad zs k = true := by
  rw [bad_iff]
  by_cases hk : k = 0
  · subst hk; rw [h.1] at hx; omega
  · have := h.nonneg (k - 1) (by omega)
    exact .inr ⟨by omega, by omega⟩

set_option maxRecDepth 100000 in
set_option maxHeartbeats 2000000 in
theorem rput_any (w : World) (A : Option Addr) (c : Nat) (zs : List Int) (hr : RI w A zs) (hn : zs.length ≤ 1000) :
    Calls Try.prog 20 #[.slice A zs.length c] w fun e w' => ∃ v, e = .returned (.tuple #[v, .bool (okL zs)]) ∧ OB w' w.heap.size 5 v (putB zs) ∧ Below w.heap.size w w' := by
  obtain ⟨b, hb⟩ : ∃ b, okL zs = b := ⟨_, rfl⟩
  obtain ⟨ps, hps⟩ : ∃ ps, putB zs = ps := ⟨_, rfl⟩
  have HB := Aside0.mk hb
  have HP := Aside0.mk hps
  have HR := Aside0.mk hr
  rw [hb, hps]
  clear hb hps hr
  by_cases h0 : zs.length = 0
  · have hl0 : ((zs.length : Int) = 0) := by omega
    have hbf : b = false := by rw [← HB.out]; exact not_ok_head (.inl h0)
    have hpf : ps = [] := by rw [← HP.out, putB, if_neg (by rw [HB.out, hbf]; simp)]
    subst hbf hpf
    go_enter Try.func20, Try.ntmps20
    go_wp2_with fail
    go_ret2
    exact ⟨_, rfl, OB.nil _ _ _, Below.refl _ _⟩
  · have hl0 : ¬ ((zs.length : Int) = 0) := by omega
    obtain ⟨ad, rfl, hc0⟩ := HR.out.at_ 0 (by omega)
    rw [Addr.add_zero'] at hc0
    by_cases hz : zs.getD 0 0 = 0
    · rw [hz] at hc0
      have HZ := Aside0.mk hz
      have HN := Aside0.mk hn
      clear hz
      have hmk0 := print_make (P := Try.prog) 22 5 .u8 1 Try.underlying22 info_u8 (by decide) 32 (by omega)
      have hmk : ∀ W : World, (Instr.makeSlice 22 (.int .i64 32) (.int .i64 32)).run Try.prog W = .ok (.slice (some ⟨W.heap.size, 0, none⟩) 32 32) (W.alloc (.cells (madeCells #[.int .u8 0] 32) 5)) := hmk0
      clear hmk0
      have hlb : ((zs.length : Int) == 0) = false := by simpa using hl0
      go_enter Try.func20, Try.ntmps20
      go_wp2_with fail
      have HO := Aside0.mk (show OB (w.alloc (.cells (madeCells #[.int .u8 0] 32) 5)) w.heap.size 5 (.slice (some ⟨w.heap.size, 0, none⟩) 32 32) (List.replicate 32 0) from by
        have h := own_made w w.heap.size 5 .u8 32 (Nat.le_refl _) (by omega)
        exact ⟨by intro x hx; rw [(List.mem_replicate.1 hx).2]; omega, h⟩)
      have HB1 := Aside0.mk (below_alloc (Below.refl w.heap.size w) (.cells (madeCells #[.int .u8 0] 32) 5))
      generalize w.alloc (.cells (madeCells #[.int .u8 0] 32) 5) = w1 at *
      clear hc0
      go_loopw [5] (fun i wr => ∃ (k : Nat) (bs : List Nat), k ≤ zs.length ∧ i = .int .i64 k ∧ Aside0 (Gd zs k ∧ bs.length = 32 ∧ OB wr w.heap.size 5 (.slice (some ⟨w.heap.size, 0, none⟩) 32 32) bs ∧ val bs = sumTo zs k ∧ Below w.heap.size w wr)) (fun i _ => zs.length - (intOf i).toNat)
      case atStart => exact ⟨0, List.replicate 32 0, by omega, rfl, ⟨⟨HZ.out, fun i hi => by omega⟩, by simp, HO.out, val_reps 32, HB1.out⟩⟩
      case round =>
        obtain ⟨k, bs, hk, rfl, HK⟩ := hrel
        by_cases hlt : k < zs.length
        · obtain ⟨ad2, e2, hck⟩ := (HR.out.below (HK.out.2.2.2.2)).at_ k hlt
          obtain rfl : ad = ad2 := by injection e2
          clear e2
          obtain ⟨x, hx⟩ : ∃ x, zs.getD k 0 = x := ⟨_, rfl⟩
          rw [hx] at hck
          have HX := Aside0.mk hx
          clear hx
          by_cases hxn : x < 0
          · have hbf : b = false := by rw [← HB.out]; exact not_ok_bad hlt (bad_neg HK.out.1 (by rw [HX.out]; exact hxn))
            have hpf : ps = [] := by rw [← HP.out, putB, if_neg (by rw [HB.out, hbf]; simp)]
            subst hbf hpf
            go_wp2_with fail
            go_quiet (fail)
            go_wp2_with fail
            go_ret2
            exact ⟨_, rfl, OB.nil _ _ _, below_q HK.out.2.2.2.2 _⟩
          have hd0 : decide (x < 0) = false := by simpa using hxn
          by_cases hx1 : 255 < x
          · have hd1 : decide (255 < x) = true := by simpa using hx1
            have hbf : b = false := by rw [← HB.out]; exact not_ok_bad hlt ((bad_iff zs k).2 (.inl (by rw [HX.out]; omega)))
            have hpf : ps = [] := by rw [← HP.out, putB, if_neg (by rw [HB.out, hbf]; simp)]
            subst hbf hpf
            go_wp2_with fail
            go_quiet (fail)
            go_wp2_with fail
            go_ret2
            exact ⟨_, rfl, OB.nil _ _ _, below_q HK.out.2.2.2.2 _⟩
          obtain ⟨X, hX⟩ : ∃ X : Nat, x = X := ⟨x.toNat, by omega⟩
          subst hX
          have hXl : X < 256 := by omega
          have hd1 : decide (255 < (X : Int)) = false := by simpa using hx1
          by_cases hk0 : k = 0
          · subst hk0
            rw [Addr.add_zero'] at hck
            have HG := Aside0.mk (HK.out.1.succ ((bad_not zs 0).2 ⟨by rw [HX.out]; omega, fun h => by omega⟩))
            go_wp2_with fail
            go_quiet (fail)
            go_wp2_with fail
            have hvX : val bs < 2 ^ X := by
              rw [HK.out.2.2.2.1]
              have h9 := HG.out.last
              rw [HX.out, Int.toNat_natCast] at h9
              exact Nat.lt_of_lt_of_le HK.out.1.sum_lt (Nat.pow_le_pow_right (by omega) h9)
            have HA := Aside0.mk (add_bit bs X HK.out.2.2.1.1 HK.out.2.1 hXl hvX)
            have HO2 := Aside0.mk (OB.drewN HK.out.2.2.1 nq)
            have HQ := Aside0.mk (below_q HK.out.2.2.2.2 nq)
            obtain ⟨hx1, hx2⟩ := HO2.out.at' HK.out.2.1 (X / 8) (by omega)
            have hck2 : (wr.drewN nq).cell? ad = some (.int .i64 (X : Int)) := hck
            clear hvX
            generalize wr.drewN nq = W at *
            go_region
            rw [← List.getD_eq_getElem?_getD, HA.out.2.2]
            have P1 := HO2.out.store' HK.out.2.1 (X / 8) _ HA.out.1
            have HP1 := Aside0.mk (show OB _ w.heap.size 5 _ _ ∧ Below w.heap.size w _ from ⟨OB.drew P1.1, Below.drew (HQ.out.grown P1.2 HQ.out.size (fun i e => by injection e with e; omega))⟩)
            clear P1 hx1 hx2 hck2
            generalize (W.setCell ⟨w.heap.size, X / 8, none⟩ (.int .u8 ((bs.getD (X / 8) 0 + 2 ^ (X % 8) : Nat) : Int))).drew = W2 at *
            go_wp2_with fail
            go_roundw
            case rel =>
              refine ⟨0 + 1, _, by omega, by go_num, ⟨HG.out, ?_, HP1.out.1, ?_, HP1.out.2⟩⟩
              · rw [List.length_set]; exact HK.out.2.1
              · rw [HA.out.2.1, HK.out.2.2.2.1, show sumTo zs (0 + 1) = sumTo zs 0 + 2 ^ (zs.getD 0 0).toNat from rfl, HX.out, Int.toNat_natCast]
            case measure => simp [intOf]; omega
          · have hki : ((0 : Int) < (k : Int)) := by omega
            have hd2 : decide (0 < k) = true := by simp; omega
            have hkn : 0 < k := by omega
            obtain ⟨ad2, e2, hcj⟩ := (HR.out.below (HK.out.2.2.2.2)).at_ (k - 1) (by omega)
            obtain rfl : ad = ad2 := by injection e2
            clear e2
            obtain ⟨y, hy⟩ : ∃ y, zs.getD (k - 1) 0 = y := ⟨_, rfl⟩
            rw [hy] at hcj
            have HY := Aside0.mk hy
            clear hy
            by_cases hxy : (X : Int) ≤ y
            · have hd3 : decide ((X : Int) ≤ y) = true := by simpa using hxy
              have hbf : b = false := by rw [← HB.out]; exact not_ok_bad hlt ((bad_iff zs k).2 (.inr (by rw [HX.out, HY.out]; exact ⟨by omega, hxy⟩)))
              have hpf : ps = [] := by rw [← HP.out, putB, if_neg (by rw [HB.out, hbf]; simp)]
              subst hbf hpf
              go_wp2_with fail
              go_quiet (fail)
              go_wp2_with fail
              go_ret2
              exact ⟨_, rfl, OB.nil _ _ _, below_q HK.out.2.2.2.2 _⟩
            · have hd3 : decide ((X : Int) ≤ y) = false := by simpa using hxy
              have HG := Aside0.mk (HK.out.1.succ ((bad_not zs k).2 ⟨by rw [HX.out]; omega, fun h => by rw [HX.out, HY.out]; omega⟩))
              go_wp2_with fail
              go_quiet (fail)
              go_wp2_with fail
              have hvX : val bs < 2 ^ X := by
                rw [HK.out.2.2.2.1]
                have h9 := HG.out.last
                rw [HX.out, Int.toNat_natCast] at h9
                exact Nat.lt_of_lt_of_le HK.out.1.sum_lt (Nat.pow_le_pow_right (by omega) h9)
              have HA := Aside0.mk (add_bit bs X HK.out.2.2.1.1 HK.out.2.1 hXl hvX)
              have HO2 := Aside0.mk (OB.drewN HK.out.2.2.1 nq)
              have HQ := Aside0.mk (below_q HK.out.2.2.2.2 nq)
              obtain ⟨hx1, hx2⟩ := HO2.out.at' HK.out.2.1 (X / 8) (by omega)
              have hck2 : (wr.drewN nq).cell? (ad.add k) = some (.int .i64 (X : Int)) := hck
              clear hvX
              generalize wr.drewN nq = W at *
              go_region
              rw [← List.getD_eq_getElem?_getD, HA.out.2.2]
              have P1 := HO2.out.store' HK.out.2.1 (X / 8) _ HA.out.1
              have HP1 := Aside0.mk (show OB _ w.heap.size 5 _ _ ∧ Below w.heap.size w _ from ⟨OB.drew P1.1, Below.drew (HQ.out.grown P1.2 HQ.out.size (fun i e => by injection e with e; omega))⟩)
              clear P1 hx1 hx2 hck2
              generalize (W.setCell ⟨w.heap.size, X / 8, none⟩ (.int .u8 ((bs.getD (X / 8) 0 + 2 ^ (X % 8) : Nat) : Int))).drew = W2 at *
              go_wp2_with fail
              go_roundw
              case rel =>
                refine ⟨k + 1, _, by omega, by go_num, ⟨HG.out, ?_, HP1.out.1, ?_, HP1.out.2⟩⟩
                · rw [List.length_set]; exact HK.out.2.1
                · rw [HA.out.2.1, HK.out.2.2.2.1, show sumTo zs (k + 1) = sumTo zs k + 2 ^ (zs.getD k 0).toNat from rfl, HX.out, Int.toNat_natCast]
              case measure => simp [intOf]; omega
        · obtain rfl : k = zs.length := by omega
          have hbt : b = true := by rw [← HB.out]; exact ok_of_good (by omega) HK.out.1
          have hpt : ps = put32 (sumTo zs zs.length) := by rw [← HP.out, putB, if_pos (by rw [HB.out, hbt])]
          subst hbt
          go_wp2_with fail
          go_ret2
          refine ⟨_, rfl, ?_, HK.out.2.2.2.2⟩
          have he := eq_put32 _ HK.out.2.2.1.1 HK.out.2.1
          rw [HK.out.2.2.2.1] at he
          rw [hpt, ← he]; exact HK.out.2.2.1
    · have hbf : b = false := by rw [← HB.out]; exact not_ok_head (.inr hz)
      have hpf : ps = [] := by rw [← HP.out, putB, if_neg (by rw [HB.out, hbf]; simp)]
      subst hbf hpf
      generalize zs.getD 0 0 = x at *
      have hxb : (x != 0) = true := by simpa using hz
      have hlb : ((zs.length : Int) == 0) = false := by simpa using hl0
      go_enter Try.func20, Try.ntmps20
      go_wp2_with fail
      go_ret2
      exact ⟨_, rfl, OB.nil _ _ _, Below.refl _ _⟩
end Go.Proofs.Ytdgomddbppgkmaa.Dir
