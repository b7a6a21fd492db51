/- Proved here: the law CrcLinear returns true for every input and changes nothing that was there. Conditions: none. -/
import Derived.Test.YtegkpopkecemnaaCrcWalks
import Derived.WalkLawsBesides
import Derived.BigRegion
namespace Go.Proofs.Ytegkpopkecemnaa.Crc
open Go.RowKit Go.Proofs.YtegkpopkecemnaaW.PrintWords Go.Proofs.Ytegkpopkecemnaa.CrcM Go.Proofs.Ytegkpopkecemnaa.Base

theorem min_run (n0 n1 n2 n : Nat) (h0 : n ≤ n0) (h1 : n ≤ n1) (h2 : n ≤ n2) (h : n = n0 ∨ n = n1 ∨ n = n2) (ats : Array TypeId) (ty : TypeId) (w : World) :
    (Builtin.min_ ats ty #[.int .i64 (n0 : Int), .int .i64 (n1 : Int), .int .i64 (n2 : Int)]).run Try.prog w = .ok (.int .i64 (n : Int)) w := by
  have e : (if (n2 : Int) < (if (n1 : Int) < (n0 : Int) then (n1 : Int) else (n0 : Int)) then (n2 : Int) else (if (n1 : Int) < (n0 : Int) then (n1 : Int) else (n0 : Int))) = (n : Int) := by
    split <;> split at * <;> omega
  simp only [Builtin.min_, Builtin.min2, List.foldlM_cons, List.foldlM_nil, Sem.run_pure, pure_bind, e]

set_option maxRecDepth 100000 in
set_option maxHeartbeats 400000 in
theorem linear_long (c0 c1 c2 : Nat) (A0 A1 A2 : Option Addr) (n0 n1 n2 n : Nat) (w : World) (h0 : n ≤ n0) (h1 : n ≤ n1) (h2 : n ≤ n2) (h : n = n0 ∨ n = n1 ∨ n = n2) (hn : 300 < n) :
    Calls Try.prog 5 #[.slice A0 n0 c0, .slice A1 n1 c1, .slice A2 n2 c2] w fun e w' => e = .returned (.bool true) ∧ Below w.heap.size w w' := by
  have hmn := min_run n0 n1 n2 n h0 h1 h2 h
  clear h
  go_enter Try.func5, Try.ntmps5
  go_wp2_with (go_at_call 9; refine (awake_any _).mono ?_; rintro e w1 ⟨rfl, hb1⟩)
  refine (new_any _).mono ?_
  rintro e w2 ⟨rfl, hb2, -⟩
  go_wp2_with fail
  go_ret
  exact ⟨rfl, below_then hb1 hb1.size hb2⟩
theorem of_len (g c n : Nat) (A : Option Addr) (bs : List Nat) (w : World) (hg : Tab w g) (hr : RB w A bs) (hl : bs.length = n) (hn : n ≤ 300) :
    Calls Try.prog 11 #[.pointer (some ⟨g, 0, none⟩), .slice A n c] w fun e w' => e = .returned (.int .u32 (CrcM.add 0 bs : Nat)) ∧ w' = w := by
  subst hl
  exact (of_any g c A bs w hg hr (by omega)).mono fun _ _ h => ⟨h.1, h.2.symm⟩
/-- k bytes of xs have been turned. -/
def mix (xs zs : List Nat) : Nat → List Nat
  | 0 => xs
  | k + 1 => (mix xs zs k).set k ((xs.getD k 0) ^^^ (zs.getD k 0))
theorem mix_length (xs zs : List Nat) (k : Nat) : (mix xs zs k).length = xs.length := by
  induction k with
  | zero => rfl
  | succ k ih => simp only [mix, List.length_set]; exact ih
theorem mix_at (xs zs : List Nat) (k : Nat) : ∀ j, k ≤ j → (mix xs zs k).getD j 0 = xs.getD j 0 := by
  induction k with
  | zero => intro j _; rfl
  | succ k ih =>
    intro j hj
    simp only [mix, List.getD_eq_getElem?_getD, List.getElem?_set]
    rw [if_neg (by omega), ← List.getD_eq_getElem?_getD, ih j (by omega), List.getD_eq_getElem?_getD]
theorem mix_done (xs zs : List Nat) (k : Nat) : ∀ j, j < k → j < xs.length → (mix xs zs k).getD j 0 = (xs.getD j 0) ^^^ (zs.getD j 0) := by
  induction k with
  | zero => intro j h; omega
  | succ k ih =>
    intro j hj hx
    have hl := mix_length xs zs k
    simp only [mix, List.getD_eq_getElem?_getD, List.getElem?_set]
    by_cases e : k = j
    · subst e
      rw [if_pos rfl, if_pos (by omega)]
      rfl
    · rw [if_neg e, ← List.getD_eq_getElem?_getD, ih j (by omega) hx, List.getD_eq_getElem?_getD, List.getD_eq_getElem?_getD]
theorem xors_at : ∀ (xs zs : List Nat) (j : Nat), zs.length = xs.length → j < xs.length → (xors xs zs).getD j 0 = (xs.getD j 0) ^^^ (zs.getD j 0)
  | [], _, j, _, h => by simp at h
  | _ :: _, [], _, h, _ => by simp at h
  | x :: xs, z :: zs, 0, _, _ => by simp [xors]
  | x :: xs, z :: zs, j + 1, h, hj => by
    simp only [xors, List.getD_cons_succ]
    exact xors_at xs zs j (by simpa using h) (by simpa using hj)
theorem mix_all (xs zs : List Nat) (h : zs.length = xs.length) : mix xs zs xs.length = xors xs zs := by
  have hl := mix_length xs zs xs.length
  have hx := xors_length xs zs h
  apply List.ext_getElem (by omega)
  intro j h1 h2
  have e1 := mix_done xs zs xs.length j (by omega) (by omega)
  have e2 := xors_at xs zs j h (by omega)
  rw [← e2] at e1
  simpa [List.getD_eq_getElem?_getD, h1, h2] using e1

set_option maxRecDepth 100000 in
set_option maxHeartbeats 400000 in
theorem linear_short (c0 c1 c2 : Nat) (A0 A1 A2 : Option Addr) (xs ys zs : List Nat) (n : Nat) (w : World) (h0 : n ≤ xs.length) (h1 : n ≤ ys.length) (h2 : n ≤ zs.length) (h : n = xs.length ∨ n = ys.length ∨ n = zs.length)
    (hr0 : RB w A0 xs) (hr1 : RB w A1 ys) (hr2 : RB w A2 zs) (hc0 : xs.length ≤ c0) (hc1 : ys.length ≤ c1) (hn : n ≤ 300) (_m0 : xs.length ≤ 140737488351232) (_m1 : ys.length ≤ 140737488351232) (_m2 : zs.length ≤ 140737488351232) :
    Calls Try.prog 5 #[.slice A0 xs.length c0, .slice A1 ys.length c1, .slice A2 zs.length c2] w fun e w' => e = .returned (.bool true) ∧ Below w.heap.size w w' := by
  have hmn := min_run xs.length ys.length zs.length n h0 h1 h2 h
  clear h
  have HR0 := Aside0.mk hr0
  have HR1 := Aside0.mk hr1
  have HR2 := Aside0.mk hr2
  clear hr0 hr1 hr2
  go_enter Try.func5, Try.ntmps5
  go_wp2_with (go_at_call 9; refine (awake_any _).mono ?_; rintro e w1 ⟨rfl, hb1⟩)
  refine (new_any _).mono ?_
  rintro e w2 ⟨rfl, hb2, ht⟩
  have HT := Aside0.mk (show Tab w2 w1.heap.size from ht)
  clear ht
  have hbw := below_then hb1 hb1.size hb2
  have HX := Aside0.mk ((HR0.out.below hbw).take_ n h0)
  have HY := Aside0.mk ((HR1.out.below hbw).take_ n h1)
  have HZ := Aside0.mk ((HR2.out.below hbw).take_ n h2)
  have lx : (xs.take n).length = n := by simp; omega
  have ly : (ys.take n).length = n := by simp; omega
  have lz : (zs.take n).length = n := by simp; omega
  generalize xs.take n = xt at *
  generalize ys.take n = yt at *
  generalize zs.take n = zt at *
  clear HR0 HR1 HR2
  subst lx
  have LY := Aside0.mk ly
  have LZ := Aside0.mk lz
  clear ly lz
  go_wp2_with (first
    | (at_builtin; refine OB.append w2.heap.size rfl (.tmp 29) (.tmp 32) 22 5 rfl Try.underlying22 info_u8 _ [] xt A0 c0 rfl rfl (OB.lit w2 _ _ [] (by simp) (Nat.le_refl _) (by simp)) (HX.out.below (below_alloc (Below.refl _ _) _)) (below_alloc (Below.refl _ _) _) (by simp) (by simp; omega) ?_; intro v1 w3 hown1 hbel1 hgr1 hat1; rw [List.nil_append] at hown1)
    | (at_builtin; refine OB.append w3.heap.size rfl (.tmp 34) (.tmp 37) 22 5 rfl Try.underlying22 info_u8 _ [] yt A1 c1 rfl (by simp only [LY.out]; rfl) (OB.lit w3 _ _ [] (by simp) (Nat.le_refl _) (by simp)) ((HY.out.below hbel1).below (below_alloc (Below.refl _ _) _)) (below_alloc (Below.refl _ _) _) (by simp) (by have := LY.out; simp; omega) ?_; intro v2 w4 hown2 hbel2 hgr2 hat2; rw [List.nil_append] at hown2)
    | fail)
  have hsep : ∀ k, v1.ownBlock = some k → v2.ownBlock ≠ some k := fun k hk hk2 => by
    have a1 := own_lt hown1.2 k hk
    have a2 := own_base hown2.2 k hk2
    omega
  have HSEP := Aside0.mk hsep
  have HB1 := Aside0.mk (own_base hown1.2)
  have HB2 := Aside0.mk (own_base hown2.2)
  have H1 := Aside0.mk (hown1.below hbel2)
  have H2 := Aside0.mk hown2
  have hb34 := hbel1.size
  have HZ4 := Aside0.mk (HZ.out.below (below_then hbel1 hbel1.size hbel2))
  have hb24 := below_then hbel1 hbel1.size hbel2
  clear hown1 hown2 hgr1 hgr2 hat1 hat2 hsep hbel2 hmn
  have hlen : xt.length ≤ 300 := hn
  go_loopw [12] (fun i wr => ∃ k : Nat, k ≤ xt.length ∧ i = .int .i64 k ∧ Aside0 (OB wr w2.heap.size 5 v1 (mix xt zt k)) ∧ Aside0 (OB wr w3.heap.size 5 v2 (mix yt zt k)) ∧ Below w2.heap.size w2 wr) (fun i _ => xt.length - (intOf i).toNat)
  case atStart => exact ⟨0, by omega, rfl, H1, H2, hb24⟩
  case round =>
    obtain ⟨k, hk, rfl, O1, O2, hbr⟩ := hrel
    by_cases hlt : k < xt.length
    · obtain ⟨g1, p1, rfl, hg1, hg1'⟩ := O1.out.form' (mix_length xt zt k) (by omega)
      obtain ⟨g2, p2, rfl, hg2, hg2'⟩ := O2.out.form' ((mix_length yt zt k).trans LY.out) (by omega)
      obtain ⟨ad, rfl, hcell⟩ := (HZ.out.below hbr).at_ k (by have := LZ.out; omega)
      obtain ⟨hx1, hx2⟩ := O1.out.at' (mix_length xt zt k) k hlt
      obtain ⟨hy1, hy2⟩ := O2.out.at' ((mix_length yt zt k).trans LY.out) k hlt
      rw [mix_at _ _ _ _ (Nat.le_refl k)] at hx1 hy1
      have hz8 := HZ.out.lt k
      have hx8 := HX.out.lt k
      have hy8 := HY.out.lt k
      have hne : g1 ≠ g2 := fun e => HSEP.out g1 rfl (by rw [e]; rfl)
      have M1 := Aside0.mk (show mix xt zt (k + 1) = (mix xt zt k).set k ((xt.getD k 0) ^^^ (zt.getD k 0)) from rfl)
      have M2 := Aside0.mk (show mix yt zt (k + 1) = (mix yt zt k).set k ((yt.getD k 0) ^^^ (zt.getD k 0)) from rfl)
      generalize xt.getD k 0 = a at *
      have EB := Aside0.mk (show ∃ b', b' = yt.getD k 0 from ⟨_, rfl⟩)
      obtain ⟨b, eb⟩ := EB.out
      obtain ⟨z, ez⟩ : ∃ z', z' = zt.getD k 0 := ⟨_, rfl⟩
      rw [← ez] at hcell hz8 M1 M2
      rw [← eb] at hy1 hy8 M2
      have EB := Aside0.mk eb
      have EZ := Aside0.mk ez
      clear eb ez
      have hbx : bits .xor .u8 (a : Int) (z : Int) = ((a ^^^ z : Nat) : Int) := u8_xor_nat a z hx8 hz8
      have hby : bits .xor .u8 (b : Int) (z : Int) = ((b ^^^ z : Nat) : Int) := u8_xor_nat b z hy8 hz8
      have ha8 : a ^^^ z < 256 := Nat.xor_lt_two_pow (n := 8) hx8 hz8
      have hb8 : b ^^^ z < 256 := Nat.xor_lt_two_pow (n := 8) hy8 hz8
      generalize a ^^^ z = az at *
      generalize b ^^^ z = bz at *
      go_wp2_with fail
      go_region
      have P1 := O1.out.store' (mix_length xt zt k) k az ha8
      have S1 := Aside0.mk P1.1.drew
      have S2 := Aside0.mk (O2.out.kept P1.2 (.inr (fun e => hne (by injection e with e; exact e.symm)))).drew
      have hbr1 := below_drew (hbr.setCell (p := ⟨g1, k, none⟩) hg1 (.int .u8 (az : Int)))
      clear P1 O1 O2 hcell hx1 hx2 hy1 hy2
      generalize (wr.setCell ⟨g1, k, none⟩ (.int .u8 (az : Int))).drew = W2 at *
      have hcell2 := (HZ.out.below hbr1).at_ k (by have := LZ.out; omega)
      obtain ⟨_, e0, hcell2⟩ := hcell2
      injection e0 with e0
      subst e0
      obtain ⟨hy1, hy2⟩ := S2.out.at' ((mix_length yt zt k).trans LY.out) k hlt
      rw [mix_at _ _ _ _ (Nat.le_refl k), ← EB.out] at hy1
      rw [← EZ.out] at hcell2
      go_wp2_with fail
      go_region
      have P2 := S2.out.store' ((mix_length yt zt k).trans LY.out) k bz hb8
      have T1 := Aside0.mk (S1.out.kept P2.2 (.inr (fun e => hne (by injection e)))).drew
      have T2 := Aside0.mk P2.1.drew
      have hbr2 := below_drew (hbr1.setCell (p := ⟨g2, k, none⟩) (by show w2.heap.size ≤ g2; omega) (.int .u8 (bz : Int)))
      clear P2 S1 S2 hcell2 hy1 hy2
      generalize (W2.setCell ⟨g2, k, none⟩ (.int .u8 (bz : Int))).drew = W3 at *
      go_wp2_with fail
      go_roundw
      case rel => exact ⟨k + 1, by omega, by go_num, by rw [M1.out]; exact T1, by rw [M2.out]; exact T2, hbr2⟩
      case measure => simp [intOf]; omega
    · obtain rfl : k = xt.length := by omega
      rw [mix_all xt zt LZ.out] at O1
      have e2 : xt.length = yt.length := LY.out.symm
      have O2' := Aside0.mk (show OB wr w3.heap.size 5 v2 (xors yt zt) by rw [← mix_all yt zt (LZ.out.trans e2), ← e2]; exact O2.out)
      obtain ⟨X, q1, hvx, hrx⟩ := O1.out.reads
      obtain ⟨Y, q2, hvy, hry⟩ := O2'.out.reads
      rw [xors_length xt zt LZ.out] at hvx
      rw [xors_length yt zt (LZ.out.trans e2), ← e2] at hvy
      subst hvx hvy
      have HTr := Aside0.mk (HT.out.below hbr)
      have HXr := Aside0.mk (HX.out.below hbr)
      have HYr := Aside0.mk (HY.out.below hbr)
      have HX' := Aside0.mk hrx
      have HY' := Aside0.mk hry
      have E2 := Aside0.mk e2
      have LIN := Aside0.mk (linear 0 xt yt zt (by omega) HX.out.1 HY.out.1 HZ.out.1 e2.symm LZ.out)
      have LX := Aside0.mk (xors_length xt zt LZ.out)
      have LY' := Aside0.mk ((xors_length yt zt (LZ.out.trans e2)).trans e2.symm)
      have k1 := add_lt 0 xt
      have k2 := add_lt 0 yt
      have k3 := add_lt 0 (xors xt zt)
      have k4 := add_lt 0 (xors yt zt)
      clear hrx hry e2 O1 O2 O2'
      go_wp2_with fail
      go_quiet ((go_at_call 11; with_reducible first
        | exact Calls.quiet_of_same (of_len _ _ _ A0 xt _ (HTr.out.drewN _) (HXr.out.drewN _) rfl hn)
        | exact Calls.quiet_of_same (of_len _ _ _ X (xors xt zt) _ (HTr.out.drewN _) (HX'.out.drewN _) LX.out hn)
        | exact Calls.quiet_of_same (of_len _ _ _ A1 yt _ (HTr.out.drewN _) (HYr.out.drewN _) LY.out hn)
        | exact Calls.quiet_of_same (of_len _ _ _ Y (xors yt zt) _ (HTr.out.drewN _) (HY'.out.drewN _) LY'.out hn)))
      rw [u32_xor_nat _ _ k1 k3, u32_xor_nat _ _ k2 k4, LIN.out, beq_self_eq_true]
      have hfin := pw_below_drewN (below_then hbw hbw.size hbr) nq
      go_wp2_with fail
      go_ret
      exact ⟨rfl, hfin⟩

theorem linear_walk (a0 : Option Addr) (len0 cap0 : Nat) (z0 : List Int) (a1 : Option Addr) (len1 cap1 : Nat) (z1 : List Int) (a2 : Option Addr) (len2 cap2 : Nat) (z2 : List Int) (w : World) (w0 : IsRow .u8 w a0 len0 cap0 z0) (y0 : len0 * 1 ≤ 140737488351232)
    (w1 : IsRow .u8 w a1 len1 cap1 z1) (y1 : len1 * 1 ≤ 140737488351232) (w2 : IsRow .u8 w a2 len2 cap2 z2) (y2 : len2 * 1 ≤ 140737488351232) :
    Calls Try.prog 5 #[.slice a0 len0 cap0, .slice a1 len1 cap1, .slice a2 len2 cap2] w fun e w' => e = .returned (.bool true) ∧ Below w.heap.size w w' := by
  obtain ⟨xs, rfl, hr, hc0⟩ := RB.of_row w0
  obtain ⟨ys, rfl, hr', hc1⟩ := RB.of_row w1
  obtain ⟨zs, rfl, hr'', _⟩ := RB.of_row w2
  obtain ⟨n, g0, g1, g2, h⟩ : ∃ n, n ≤ xs.length ∧ n ≤ ys.length ∧ n ≤ zs.length ∧ (n = xs.length ∨ n = ys.length ∨ n = zs.length) :=
    ⟨min xs.length (min ys.length zs.length), by omega, by omega, by omega, by omega⟩
  rcases Nat.lt_or_ge 300 n with hn | hn
  · exact linear_long cap0 cap1 cap2 a0 a1 a2 _ _ _ n w g0 g1 g2 h hn
  · exact linear_short cap0 cap1 cap2 a0 a1 a2 xs ys zs n w g0 g1 g2 h hr hr' hr'' hc0 hc1 hn (by omega) (by omega) (by omega)
end Go.Proofs.Ytegkpopkecemnaa.Crc
