/- Proved here: the law BitrAll returns true for every input and changes nothing that was there. Conditions: none. -/
import Derived.Test.YtohgkdiagekmbaaBitrLaws
namespace Go.Proofs.Ytohgkdiagekmbaa.Bitr
open Go.RowKit Go.Proofs.YtohgkdiagekmbaaW.PrintWords Go.Proofs.Ytohgkdiagekmbaa.CrcM Go.Proofs.Ytohgkdiagekmbaa.BitsM Go.Proofs.Ytohgkdiagekmbaa.Base Go.Proofs.Ytohgkdiagekmbaa.Bitw

/-! plain -/
/-- The bits of a number as they are taken: the highest one first. -/
def tks (V L : Nat) : Nat → List Int
  | 0 => []
  | k + 1 => tks V L k ++ [((V / 2 ^ (L - (k + 1)) % 2 : Nat) : Int)]
theorem tks_length (V L k : Nat) : (tks V L k).length = k := by
  induction k with
  | zero => rfl
  | succ k ih => simp [tks, ih]
theorem tks_get (V L : Nat) : ∀ k i, i < k → (tks V L k).getD i 0 = ((V / 2 ^ (L - (i + 1)) % 2 : Nat) : Int)
  | 0, i, h => by omega
  | k + 1, i, h => by
    rw [tks, List.getD_eq_getElem?_getD]
    rcases Nat.lt_or_ge i k with hi | hi
    · rw [List.getElem?_append_left (by rw [tks_length]; exact hi), ← List.getD_eq_getElem?_getD, tks_get V L k i hi]
    · obtain rfl : i = k := by omega
      rw [List.getElem?_append_right (by rw [tks_length]; exact Nat.le_refl _), tks_length, Nat.sub_self]
      rfl
theorem lft_back (bs : List Nat) (hb : ∀ b ∈ bs, b < 256) (hm : Marked bs) : 2 ^ lft bs ≤ val bs ∧ val bs < 2 ^ (lft bs + 1) ∧ bs.length = lft bs / 8 + 1 := by
  have h := top bs hb hm.1 hm.2
  have h0 := hm.1
  unfold lft
  refine ⟨h.1, ?_, by omega⟩
  rw [show 8 * (bs.length - 1) + len8 (bs.getD (bs.length - 1) 0) - 1 + 1 = 8 * (bs.length - 1) + len8 (bs.getD (bs.length - 1) 0) by omega]
  exact h.2.1
theorem back_same (bs rs : List Nat) (hb : ∀ b ∈ bs, b < 256) (hr : ∀ b ∈ rs, b < 256) (hm : Marked bs) (hl : rs.length = lft bs / 8 + 1) (hv : val rs = val bs % 2 ^ lft bs + 2 ^ lft bs) : (rs == bs) = true := by
  have h := lft_back bs hb hm
  rw [beq_iff_eq]
  refine val_inj _ _ (by omega) hr hb ?_
  rw [hv]
  have h2 := h.2.1
  rw [Nat.pow_succ] at h2
  have e : val bs % 2 ^ lft bs = val bs - 2 ^ lft bs := by
    rw [Nat.mod_eq_sub_mod h.1, Nat.mod_eq_of_lt (by omega)]
  omega
theorem own_keep {w w1 : World} {base : Nat} {e : TypeId} {size n : Nat} {v : Value} {xs : List Value} {S : Nat → Prop} (h : w.ownsRow base e size v n xs) (hk : Keep S w w1) (hne : ∀ k, v.ownBlock = some k → ¬ S k) : w1.ownsRow base e size v n xs := by
  refine ⟨h.1, ?_⟩
  rcases h.2 with hn | ⟨g, cap, cur, rfl, hb, hgg, rest⟩
  · exact .inl hn
  · refine .inr ⟨g, cap, cur, rfl, hb, ?_, rest⟩
    rw [hk.block g (Array.getElem?_eq_some_iff.1 hgg).1 (hne g rfl)]
    exact hgg
theorem info_u32 : (Try.prog.info? 32).map (fun i => (i.zero, i.size, i.bytes)) = some (some (.int .u32 0), 1, 4) := by kernel_rfl

set_option maxRecDepth 100000 in
set_option maxHeartbeats 400000 in
theorem all_long (c : Nat) (A : Option Addr) (l : Nat) (w : World) (hn : 60 < l) :
    Calls Try.prog 11 #[.slice A l c] w fun e w' => e = .returned (.bool true) ∧ Below w.heap.size w w' := by
  go_enter Try.func11, Try.ntmps11
  go_wp2_with (go_at_call 13; refine (awake2_any _).mono ?_; rintro e w1 ⟨rfl, hb1⟩)
  go_ret
  exact ⟨rfl, hb1⟩
set_option maxRecDepth 100000 in
set_option maxHeartbeats 400000 in
theorem all_no (c : Nat) (A : Option Addr) (bs : List Nat) (w : World) (hr : RB w A bs) (hn : bs.length ≤ 60) (hm : ¬ Marked bs) :
    Calls Try.prog 11 #[.slice A bs.length c] w fun e w' => e = .returned (.bool true) ∧ Below w.heap.size w w' := by
  have HR := Aside0.mk hr
  have HM := Aside0.mk hm
  clear hr hm
  go_enter Try.func11, Try.ntmps11
  go_wp2_with (go_at_call 13; refine (awake2_any _).mono ?_; rintro e w1 ⟨rfl, hb1⟩)
  refine (new_no _ _ _ bs (HR.out.below hb1) (by omega) HM.out).mono ?_
  rintro e w2 ⟨rfl, rfl⟩
  go_wp2_with fail
  go_ret
  exact ⟨rfl, hb1⟩
set_option maxRecDepth 100000 in
set_option maxHeartbeats 1000000 in
theorem all_yes (c : Nat) (A : Option Addr) (bs : List Nat) (w : World) (hr : RB w A bs) (hn : bs.length ≤ 60) (hm : Marked bs) :
    Calls Try.prog 11 #[.slice A bs.length c] w fun e w' => e = .returned (.bool true) ∧ Below w.heap.size w w' := by
  have HR := Aside0.mk hr
  have HM := Aside0.mk hm
  have HS := Aside0.mk (fun rs a b d => back_same bs rs hr.1 a hm b d)
  clear hr hm
  go_enter Try.func11, Try.ntmps11
  go_wp2_with (go_at_call 13; refine (awake2_any _).mono ?_; rintro e w1 ⟨rfl, hb1⟩)
  refine (new_yes _ _ _ bs (HR.out.below hb1) (by omega) HM.out).mono ?_
  rintro e w2 ⟨gx, vx, rfl, hx2, hb2⟩
  have hb2' := below_then hb1 hb1.size hb2
  have X2 := Aside0.mk hx2
  have XL := Aside0.mk (show ∀ q, vx.ownBlock = some q → q < w2.heap.size from hx2.row.lt)
  have hgx : gx < w2.heap.size := hx2.lt
  have hL : lft bs ≤ 480 := by have := hx2.llt; omega
  have hfx : ∀ i, i = gx → w.heap.size ≤ i := fun i hi => by have := hx2.base; have := hb1.size; omega
  clear hx2
  generalize lft bs = L at *
  go_wp2_with fail
  refine (left_any _ _ _ _ _ _ X2.out).mono ?_
  rintro e w3 ⟨rfl, rfl⟩
  go_wp2_with fail
  go_loopw [6, 8] (fun v i wr => ∃ k : Nat, k ≤ L ∧ i = .int .i64 k ∧ Aside0 (Rd wr w1.heap.size gx vx bs (L - k)) ∧ Aside0 (wr.ownsRow w2.heap.size 32 1 v k (nums .u32 (tks (val bs) L k))) ∧ w2.heap.size ≤ wr.heap.size ∧ Below w.heap.size w wr) (fun _ i _ => L - (intOf i).toNat)
  case atStart => exact ⟨0, by omega, rfl, X2, ⟨own_nil _ _ _ _⟩, Nat.le_refl _, hb2'⟩
  case round =>
    obtain ⟨k, hk, rfl, HX, HO, hsz, hbr⟩ := hrel
    by_cases hlt : k < L
    · go_wp2_with fail
      refine (take_any _ _ _ _ 1 _ _ HX.out (by omega) (by omega) (by omega)).mono ?_
      rintro e w4 ⟨rfl, hx4, hk4⟩
      have hb4 := hbr.trans (hk4.below hbr.size hfx)
      have hs4 : w2.heap.size ≤ w4.heap.size := Nat.le_trans hsz hk4.size
      have X4 := Aside0.mk (show Rd w4 w1.heap.size gx vx bs (L - (k + 1)) by rw [show L - (k + 1) = L - k - 1 by omega]; exact hx4)
      have O4 := Aside0.mk (show w4.ownsRow w2.heap.size 32 1 u6 k (nums .u32 (tks (val bs) L k)) from own_keep HO.out hk4 (fun q hq e => by have := own_base HO.out q hq; have e' : q = gx := e; omega))
      have hbit : val bs / 2 ^ (L - k - 1) % 2 ^ 1 < 2 := Nat.mod_lt _ (by omega)
      have HE := Aside0.mk (show tks (val bs) L (k + 1) = tks (val bs) L k ++ [((val bs / 2 ^ (L - k - 1) % 2 ^ 1 : Nat) : Int)] from rfl)
      have HLN := Aside0.mk (tks_length (val bs) L k)
      clear hx4 hk4 HX HO
      generalize val bs / 2 ^ (L - k - 1) % 2 ^ 1 = b at *
      generalize tks (val bs) L k = zs at *
      go_wp2_with (at_builtin; refine print_append_num (w0 := w4) w2.heap.size rfl (.tmp 48) (.tmp 50) 55 32 .u32 4 rfl Try.underlying55 info_u32 (by decide) u6 zs (b : Int) rfl rfl (by rw [HLN.out]; exact O4.out) (Below.refl _ _) hs4 (by rw [HLN.out]; omega) ?_; intro v5 w5 hown5 hbel5 hgr5 hat5)
      have hbr5 := hb4.trans (hbel5.mono hb2'.size)
      have hs5 := Nat.le_trans hs4 hbel5.size
      have KG := Keep.of_grown hgr5
      have X5 := Aside0.mk (X4.out.keep KG (fun e => by have := own_base O4.out gx e.symm; omega) (fun q hq e => by have := own_base O4.out q e.symm; have := XL.out q hq; omega))
      have O5 := Aside0.mk (show w5.ownsRow w2.heap.size 32 1 v5 (k + 1) (nums .u32 (tks (val bs) L (k + 1))) by
        rw [HE.out]; rw [List.length_append, HLN.out] at hown5; exact hown5)
      clear hown5 hgr5 hat5 KG hbel5
      go_roundw
      case rel => exact ⟨k + 1, by omega, by go_num, X5, O5, hs5, hbr5⟩
      case measure => simp [intOf]; omega
    · obtain rfl : k = L := by omega
      go_wp2_with fail
      obtain ⟨Al, cl, rfl, hql⟩ := own_reads HO.out
      have QL := Aside0.mk hql
      clear hql HO
      rw [Nat.sub_self] at HX
      refine (Bitw.new_any wr wr.heap.size (Nat.le_refl _)).mono ?_
      rintro e w6 ⟨rfl, hw6, hb6⟩
      have W6 := Aside0.mk hw6
      clear hw6
      go_wp2_with fail
      go_loopw [12] (fun i ws => ∃ j : Nat, j ≤ k ∧ i = .int .i64 ((k : Int) - j - 1) ∧ ∃ v' bs', Aside0 (Wr ws wr.heap.size wr.heap.size v' bs' j) ∧ Aside0 (val bs' = val bs % 2 ^ j) ∧ Below wr.heap.size wr ws) (fun i _ => (intOf i + 1).toNat)
      case atStart => exact ⟨0, by omega, by go_num, _, _, W6, ⟨by simp [CrcM.val, Nat.mod_one]⟩, hb6⟩
      case round =>
        obtain ⟨j, hj, rfl, v', bs', HW, HV, hbw⟩ := hrel
        by_cases hlt : j < k
        · obtain ⟨q, hq⟩ : ∃ q, k = j + 1 + q := ⟨k - (j + 1), by omega⟩
          obtain ⟨ad, rfl, hcl⟩ := QL.out.2.2 (by omega)
          have hc := pw_cell_below hbw (hcl q (by omega))
          rw [tks_get _ _ _ _ (by omega), show k - (q + 1) = j by omega] at hc
          have eq1 : ((k : Int) - j - 1) = (q : Int) := by omega
          rw [eq1]
          clear hcl
          have hbit : val bs / 2 ^ j % 2 < 2 := Nat.mod_lt _ (by omega)
          have HE := Aside0.mk (show val bs % 2 ^ (j + 1) = val bs % 2 ^ j + 2 ^ j * (val bs / 2 ^ j % 2 % 2 ^ 1) by rw [bit_mod]; simp)
          generalize val bs / 2 ^ j % 2 = b at *
          have hqk : q < k := by omega
          have HQ := Aside0.mk hq
          clear hq eq1
          go_wp2_with fail
          refine (put_any _ _ _ j b 1 _ _ HW.out (by omega) (by omega) (by omega)).mono ?_
          rintro e w7 ⟨rfl, v7, bs7, hw7, hv7, hk7, -⟩
          have R1 := Aside0.mk hw7
          have R2 := Aside0.mk (show val bs7 = val bs % 2 ^ (j + 1) by rw [hv7, HV.out, HE.out])
          have R3 := hbw.trans (hk7.below hbw.size HW.out.foot_base)
          clear hw7 hv7 hk7
          go_wp2_with fail
          go_roundw
          case rel => exact ⟨j + 1, by omega, by (have := HQ.out; go_num), v7, bs7, R1, R2, R3⟩
          case measure => simp [intOf] <;> omega
        · obtain rfl : j = k := by omega
          have ej : ((j : Int) - j - 1) = -1 := by omega
          rw [ej]
          go_wp2_with fail
          have hbw2 := below_then hbr hbr.size hbw
          have XF := Aside0.mk (HX.out.below hbw)
          refine (left_any _ _ _ _ _ _ XF.out).mono ?_
          rintro e w7 ⟨rfl, rfl⟩
          go_wp2_with fail
          refine (close_any _ _ _ _ _ _ HW.out (by omega)).mono ?_
          rintro e w7 ⟨r7, rs, rfl, ho7, hl7, hv7, hb7⟩
          obtain ⟨A7, c7, rfl, q7⟩ := ho7.reads
          have Q7 := Aside0.mk q7
          have hb7' := below_then hbw2 hbw2.size hb7
          have ES := HS.out rs q7.1 hl7 (by rw [hv7, HV.out])
          have HR7 := Aside0.mk (HR.out.below hb7')
          clear ho7 q7 hl7 hv7 hb7
          go_wp2_with fail
          refine (same_any w7 A7 A c7 c rs bs Q7.out HR7.out).mono ?_
          rintro e w8 ⟨rfl, rfl⟩
          rw [ES]
          clear ES
          go_wp2_with fail
          go_ret
          exact ⟨rfl, hb7'⟩

theorem all_walk (a0 : Option Addr) (len0 cap0 : Nat) (z0 : List Int) (w : World) (w0 : IsRow .u8 w a0 len0 cap0 z0) (_y0 : len0 * 1 ≤ 140737488351232) :
    Calls Try.prog 11 #[.slice a0 len0 cap0] w fun e w' => e = .returned (.bool true) ∧ Below w.heap.size w w' := by
  obtain ⟨bs, rfl, hr, _⟩ := RB.of_row w0
  by_cases h : 60 < bs.length
  · exact all_long cap0 a0 _ w h
  · by_cases hm : Marked bs
    · exact all_yes cap0 a0 bs w hr (by omega) hm
    · exact all_no cap0 a0 bs w hr (by omega) hm
end Go.Proofs.Ytohgkdiagekmbaa.Bitr
