/- Proved here: the law BitrBack returns true for every input and changes nothing that was there. Conditions: none. -/
import Derived.Test.YtohgkdiagekmbaaBitrLists
namespace Go.Proofs.Ytohgkdiagekmbaa.Bitr
open Go.RowKit Go.Proofs.YtohgkdiagekmbaaW.PrintWords Go.Proofs.Ytohgkdiagekmbaa.CrcM Go.Proofs.Ytohgkdiagekmbaa.BitsM Go.Proofs.Ytohgkdiagekmbaa.Base Go.Proofs.Ytohgkdiagekmbaa.Bitw

/-! plain -/
def AllFit (qs : List (Nat × Int)) : Prop := ∀ q ∈ qs, fits q.2 = true ∧ q.1 < 4294967296
theorem fits_iff (n : Int) : fits n = true ↔ 0 ≤ n ∧ n ≤ 24 := by simp [fits]
theorem puts_app (s : Nat × Nat) (a b : List (Nat × Int)) : puts s (a ++ b) = puts (puts s a) b := by unfold puts; rw [List.foldl_append]
theorem puts_one (s : Nat × Nat) (p : Nat × Int) : puts s [p] = put1 s p := rfl
theorem puts_ext (qs : List (Nat × Int)) : ∀ s : Nat × Nat, ∃ R, (puts s qs).1 = s.1 + 2 ^ s.2 * R ∧ s.2 ≤ (puts s qs).2 := by
  induction qs with
  | nil => intro s; exact ⟨0, by simp [puts], Nat.le_refl _⟩
  | cons q qs ih =>
    intro s
    obtain ⟨R, h1, h2⟩ := ih (put1 s q)
    have e : puts s (q :: qs) = puts (put1 s q) qs := rfl
    rw [e, h1]
    by_cases hf : fits q.2 = true
    · have e1 : put1 s q = (s.1 + 2 ^ s.2 * (q.1 % 2 ^ q.2.toNat), s.2 + q.2.toNat) := by unfold put1; rw [if_pos hf]
      rw [e1] at h2 ⊢
      refine ⟨q.1 % 2 ^ q.2.toNat + 2 ^ q.2.toNat * R, ?_, by have h3 : s.2 + q.2.toNat ≤ _ := h2; omega⟩
      show s.1 + 2 ^ s.2 * (q.1 % 2 ^ q.2.toNat) + 2 ^ (s.2 + q.2.toNat) * R = _
      rw [Nat.pow_add, Nat.mul_add, Nat.mul_assoc, Nat.add_assoc]
    · have e1 : put1 s q = s := by unfold put1; rw [if_neg hf]
      rw [e1] at h2 ⊢
      exact ⟨R, rfl, h2⟩
theorem puts_lt (qs : List (Nat × Int)) : ∀ s : Nat × Nat, s.1 < 2 ^ s.2 → (puts s qs).1 < 2 ^ (puts s qs).2 := by
  induction qs with
  | nil => intro s h; exact h
  | cons q qs ih =>
    intro s h
    refine ih (put1 s q) ?_
    unfold put1
    split
    · exact add_lt_pow h q.2.toNat (Nat.mod_lt _ (Nat.two_pow_pos _))
    · exact h
/-- What was put at its place is there. -/
theorem back_one (qs : List (Nat × Int)) (j : Nat) (hj : j < qs.length) (hf : fits (qs.getD j (0, 0)).2 = true) :
    (puts (0, 0) (qs.take (j + 1))).2 = (puts (0, 0) (qs.take j)).2 + (qs.getD j (0, 0)).2.toNat ∧
    ((puts (0, 0) qs).1 + 2 ^ (puts (0, 0) qs).2) / 2 ^ (puts (0, 0) (qs.take j)).2 % 2 ^ (qs.getD j (0, 0)).2.toNat = (qs.getD j (0, 0)).1 % 2 ^ (qs.getD j (0, 0)).2.toNat := by
  have e1 := puts_snoc (0, 0) qs j hj
  have hl := puts_lt (qs.take j) (0, 0) (by decide)
  obtain ⟨R, h1, h2⟩ := puts_ext (qs.drop (j + 1)) (puts (0, 0) (qs.take (j + 1)))
  rw [← puts_app, List.take_append_drop] at h1 h2
  generalize qs.getD j (0, 0) = q at *
  generalize puts (0, 0) (qs.take j) = s at *
  have e2 : put1 s q = (s.1 + 2 ^ s.2 * (q.1 % 2 ^ q.2.toNat), s.2 + q.2.toNat) := by unfold put1; rw [if_pos hf]
  rw [e2] at e1
  rw [e1] at h1 h2 ⊢
  refine ⟨rfl, ?_⟩
  have h1' : (puts (0, 0) qs).1 = s.1 + 2 ^ s.2 * (q.1 % 2 ^ q.2.toNat) + 2 ^ (s.2 + q.2.toNat) * R := h1
  have h2' : s.2 + q.2.toNat ≤ (puts (0, 0) qs).2 := h2
  obtain ⟨t, ht⟩ : ∃ t, (puts (0, 0) qs).2 = s.2 + q.2.toNat + t := ⟨_, (Nat.add_sub_cancel' h2').symm⟩
  rw [h1', ht]
  generalize q.2.toNat = n
  have hy : q.1 % 2 ^ n < 2 ^ n := Nat.mod_lt _ (Nat.two_pow_pos _)
  generalize q.1 % 2 ^ n = y at *
  have e3 : s.1 + 2 ^ s.2 * y + 2 ^ (s.2 + n) * R + 2 ^ (s.2 + n + t) = s.1 + 2 ^ s.2 * (y + 2 ^ n * (R + 2 ^ t)) := by
    rw [Nat.pow_add _ (s.2 + n) t, Nat.pow_add _ s.2 n, Nat.mul_add, Nat.mul_add, Nat.mul_assoc, Nat.mul_assoc, Nat.mul_add]
    omega
  rw [e3, Nat.add_mul_div_left _ _ (Nat.two_pow_pos _), Nat.div_eq_of_lt hl, Nat.zero_add, Nat.add_mul_mod_self_left, Nat.mod_eq_of_lt hy]
theorem pow_between (a b v : Nat) (h1 : 2 ^ a ≤ v) (h2 : v < 2 ^ (a + 1)) (h3 : 2 ^ b ≤ v) (h4 : v < 2 ^ (b + 1)) : a = b := by
  have h5 : a < b + 1 := (Nat.pow_lt_pow_iff_right (by omega : 1 < 2)).1 (by omega : 2 ^ a < 2 ^ (b + 1))
  have h6 : b < a + 1 := (Nat.pow_lt_pow_iff_right (by omega : 1 < 2)).1 (by omega : 2 ^ b < 2 ^ (a + 1))
  omega
theorem closed_marked (rs : List Nat) (V m : Nat) (hb : ∀ b ∈ rs, b < 256) (hl : rs.length = m / 8 + 1) (hv : val rs = V + 2 ^ m) (hV : V < 2 ^ m) : Marked rs ∧ lft rs = m := by
  have hM : Marked rs := by
    refine ⟨by omega, ?_⟩
    rw [val_at rs _ hb, hl, show m / 8 + 1 - 1 = m / 8 by omega, hv]
    have e : 2 ^ m = 2 ^ (8 * (m / 8)) * 2 ^ (m % 8) := by rw [← Nat.pow_add]; congr 1; omega
    have h1 : 1 ≤ (V + 2 ^ m) / 2 ^ (8 * (m / 8)) := by
      rw [Nat.le_div_iff_mul_le (Nat.two_pow_pos _), Nat.one_mul]
      have : 2 ^ (8 * (m / 8)) ≤ 2 ^ m := Nat.pow_le_pow_right (by omega) (by omega)
      omega
    have h2 : (V + 2 ^ m) / 2 ^ (8 * (m / 8)) < 256 := by
      rw [Nat.div_lt_iff_lt_mul (Nat.two_pow_pos _), show (256 : Nat) = 2 ^ 8 from rfl, ← Nat.pow_add]
      have : 2 ^ (m + 1) ≤ 2 ^ (8 + 8 * (m / 8)) := Nat.pow_le_pow_right (by omega) (by omega)
      rw [Nat.pow_succ] at this
      omega
    rw [Nat.mod_eq_of_lt h2]
    omega
  refine ⟨hM, ?_⟩
  have h := lft_top rs hb hM
  refine pow_between _ _ (val rs) h.1 h.2.1 (by omega) ?_
  rw [hv, Nat.pow_succ]
  omega

/-! parts of the call's own -/
def pcells (qs : List (Nat × Int)) : List Value := qs.flatMap fun q => [.int .u32 (q.1 : Int), .int .i64 q.2]
theorem pcells_length (qs : List (Nat × Int)) : (pcells qs).length = qs.length * 2 := by
  induction qs with
  | nil => rfl
  | cons q qs ih => simp [pcells] at ih ⊢; omega
theorem pcells_snoc (qs : List (Nat × Int)) (x : Nat) (n : Int) : pcells (qs ++ [(x, n)]) = pcells qs ++ [.int .u32 (x : Int), .int .i64 n] := by simp [pcells]
theorem pcells_get : ∀ (qs : List (Nat × Int)) (i : Nat), i < qs.length → (pcells qs)[i * 2]? = some (.int .u32 ((qs.getD i (0, 0)).1 : Int)) ∧ (pcells qs)[i * 2 + 1]? = some (.int .i64 (qs.getD i (0, 0)).2)
  | [], i, h => by simp at h
  | q :: qs, 0, _ => by simp [pcells]
  | q :: qs, i + 1, h => by
    have ih := pcells_get qs i (by simpa using h)
    have e : pcells (q :: qs) = [.int .u32 (q.1 : Int), .int .i64 q.2] ++ pcells qs := by simp [pcells]
    rw [e, show (i + 1) * 2 = 2 + i * 2 by omega, show 2 + i * 2 + 1 = 2 + (i * 2 + 1) by omega, List.getElem?_append_right (by simp), List.getElem?_append_right (by simp)]
    simpa using ih
def OP (w : World) (base : Nat) (v : Value) (qs : List (Nat × Int)) : Prop := w.ownsRow base 44 2 v qs.length (pcells qs)
theorem OP.reads {w : World} {base : Nat} {v : Value} {qs : List (Nat × Int)} (h : OP w base v qs) (hq : ∀ q ∈ qs, q.1 < 4294967296 ∧ (Lit.int .i64 q.2).wf = true) : ∃ A c, v = .slice A qs.length c ∧ RP w A qs := by
  rcases h.2 with ⟨rfl, h0⟩ | ⟨g, cap, cur, rfl, hb, hgg, h1, h2, h3, h4⟩
  · rw [h0]
    exact ⟨none, 0, rfl, hq, fun hp => by omega⟩
  · refine ⟨some ⟨g, 0, none⟩, cap, rfl, hq, fun hp => ⟨_, rfl, fun i hi => ?_⟩⟩
    have hg := pcells_get qs i hi
    rw [← h4, List.getElem?_take, if_pos (by omega), List.getElem?_take, if_pos (by omega)] at hg
    rw [add_plain, add_plain, cell_of_row _ _ _ _ _ _ hgg, cell_of_row _ _ _ _ _ _ hgg]
    simpa using hg
theorem info_part : (Try.prog.info? 44).map (fun i => (i.zero, i.size, i.bytes)) = some (some (.agg #[.int .u32 0, .int .i64 0]), 2, 16) := by kernel_rfl
theorem own_keep {w w1 : World} {base : Nat} {e : TypeId} {size n : Nat} {v : Value} {xs : List Value} {S : Nat → Prop} (h : w.ownsRow base e size v n xs) (hk : Keep S w w1) (hne : ∀ k, v.ownBlock = some k → ¬ S k) : w1.ownsRow base e size v n xs := by
  refine ⟨h.1, ?_⟩
  rcases h.2 with hn | ⟨g, cap, cur, rfl, hb, hgg, rest⟩
  · exact .inl hn
  · refine .inr ⟨g, cap, cur, rfl, hb, ?_, rest⟩
    rw [hk.block g (Array.getElem?_eq_some_iff.1 hgg).1 (hne g rfl)]
    exact hgg
/-- A writer and a list of parts share nothing. -/
theorem apart_parts {w : World} {B B' g m : Nat} {v u : Value} {bs : List Nat} {qs : List (Nat × Int)} (h : Wr w B g v bs m) (h' : OP w B' u qs) : ∀ i, foot g v i → some i ≠ u.ownBlock := by
  rintro i (e | e)
  · rw [e]; exact own_ne h' h.blk (by decide)
  · intro e'
    rcases own_type_ne h' h.row.2 (by decide) with hh | hh
    · rw [hh] at e'; cases e'
    · exact hh (e'.symm.trans e)

theorem Rd.drewN' {w : World} {B g left : Nat} {v : Value} {bs : List Nat} (h : Rd w B g v bs left) (n : Nat) : Rd (w.drewN n) B g v bs left := ⟨h.base, h.blk, h.row.drewN n, h.llt⟩
theorem mask_walk (x n : Nat) (hx : x < 4294967296) (hn : n ≤ 24) : bits .and .u32 (x : Int) (((2 : Int) ^ n - 1) % 4294967296) = ((x % 2 ^ n : Nat) : Int) := by
  have hp : 2 ^ n ≤ 2 ^ 24 := Nat.pow_le_pow_right (by omega) hn
  have h1 := Nat.two_pow_pos n
  have e2 : ((2 : Int) ^ n) = ((2 ^ n : Nat) : Int) := by simp
  have e : (((2 : Int) ^ n - 1) % 4294967296) = ((2 ^ n - 1 : Nat) : Int) := by rw [e2]; omega
  rw [e, u32_and_nat x (2 ^ n - 1) hx (by omega), Nat.and_two_pow_sub_one_eq_mod]
set_option maxRecDepth 100000 in
set_option maxHeartbeats 400000 in
theorem back_long (c : Nat) (A : Option Addr) (l : Nat) (w : World) (hn : 60 < l) :
    Calls Try.prog 12 #[.slice A l c] w fun e w' => e = .returned (.bool true) ∧ Below w.heap.size w w' := by
  go_enter Try.func12, Try.ntmps12
  go_wp2_with (go_at_call 13; refine (awake2_any _).mono ?_; rintro e w1 ⟨rfl, hb1⟩)
  go_ret
  exact ⟨rfl, hb1⟩
set_option maxRecDepth 100000 in
set_option maxHeartbeats 1000000 in
theorem back_short (c : Nat) (A : Option Addr) (ps : List (Nat × Int)) (w : World) (hr : RP w A ps) (hn : ps.length ≤ 60) :
    Calls Try.prog 12 #[.slice A ps.length c] w fun e w' => e = .returned (.bool true) ∧ Below w.heap.size w w' := by
  have HR := Aside0.mk hr
  clear hr
  go_enter Try.func12, Try.ntmps12
  go_wp2_with (go_at_call 13; refine (awake2_any _).mono ?_; rintro e w1 ⟨rfl, hb1⟩)
  refine (Bitw.new_any w1 w1.heap.size (Nat.le_refl _)).mono ?_
  rintro e w2 ⟨rfl, hw2, hb2⟩
  have hb2' := below_then hb1 hb1.size hb2
  have W2 := Aside0.mk hw2
  have h01 := hb1.size
  have h12 := hb2.size
  clear hw2 hb2
  go_wp2_with fail
  go_loopw [5, 6] (fun u i wr => ∃ k : Nat, k ≤ ps.length ∧ i = .int .i64 k ∧ ∃ v bs m qs, Aside0 (Wr wr w1.heap.size w1.heap.size v bs m) ∧ Aside0 (OP wr w1.heap.size u qs) ∧ Aside0 (puts (0, 0) qs = (val bs, m)) ∧ Aside0 (AllFit qs) ∧ qs.length ≤ k ∧ m ≤ 24 * k ∧ Below w.heap.size w wr) (fun _ i _ => ps.length - (intOf i).toNat)
  case atStart => exact ⟨0, by omega, rfl, _, _, 0, [], W2, ⟨own_nil _ _ _ _⟩, ⟨rfl⟩, ⟨by intro q hq; cases hq⟩, by simp, by omega, hb2'⟩
  case round =>
    obtain ⟨k, hk, rfl, v, bs, m, qs, HW, HO, HP, HF, hql, hm, hbr⟩ := hrel
    by_cases hlt : k < ps.length
    · obtain ⟨ad, rfl, hw0, hw1⟩ := HR.out.at_ k hlt
      have hq0 := World.block_lt_of_cell? w _ hw0
      have hc0 := pw_cell_below hbr hw0
      have hc1 := pw_cell_below hbr hw1
      clear hw0 hw1
      obtain ⟨hx, hwf⟩ := HR.out.get k hlt
      generalize ps.getD k (0, 0) = p at *
      obtain ⟨x, n⟩ := p
      dsimp only at hc0 hc1 hx hwf
      have hi := i64_range hwf
      have hm0 : m ≤ 50000 := by omega
      go_wp2_with fail
      go_region_held3 (fun w' => w'.cell? (ad.add (k * 2)) = some (.int .u32 (x : Int)) ∧ w'.cell? ⟨(ad.add (k * 2)).block, (ad.add (k * 2)).off + 1, none⟩ = some (.int .i64 n)) (go_keep)
        (first | (go_at_call 21; refine (put_all _ w1.heap.size w1.heap.size m x n v bs ?_ hm0 hx).mono ?_; (exact HW.out.drew); rintro e w4 ⟨rfl, v4, bs4, hw4, hv4, hk4, hn4⟩; have hd := hk4.below (B := w.heap.size) (by exact hbr.size) (fun i hi => Nat.le_trans h01 (HW.out.foot_base i hi)); have hd0 := below_cell_drew hd hq0 hc0; have hd1 := below_cell_drew (p := ⟨(ad.add (k * 2)).block, (ad.add (k * 2)).off + 1, none⟩) hd hq0 hc1))
      have hbr4 := hbr.drew.trans hd
      have O4 : Aside0 (OP w4 w1.heap.size u5 qs) := ⟨own_keep (show OP wr.drew w1.heap.size u5 qs from HO.out.drew) hk4 (fun q hq e => apart_parts HW.out HO.out q e hq.symm)⟩
      have W4 := Aside0.mk hw4
      have V4 := Aside0.mk hv4
      have hs4 : w1.heap.size ≤ w4.heap.size := by have := hk4.size; have := HW.out.base; have := blk_lt HW.out.blk; simp at *; omega
      clear hw4 hv4 hk4 hn4 hd hc0 hc1 HO
      rcases hf : fits n with _ | _
      · have e1 : put1 (val bs, m) (x, n) = (val bs, m) := by unfold put1; rw [if_neg (by rw [hf]; simp)]
        rw [e1] at W4 V4
        clear e1 hf
        go_wp2_with fail
        go_roundw
        case rel => exact ⟨k + 1, by omega, by go_num, v4, bs4, m, qs, W4, O4, ⟨by rw [HP.out, V4.out]⟩, HF, by omega, by omega, hbr4⟩
        case measure => simp [intOf]; omega
      · have e1 : put1 (val bs, m) (x, n) = (val bs + 2 ^ m * (x % 2 ^ n.toNat), m + n.toNat) := by unfold put1; rw [if_pos hf]
        have hn24 := (fits_iff n).1 hf
        have P4 := Aside0.mk (show puts (0, 0) (qs ++ [(x, n)]) = put1 (val bs, m) (x, n) by rw [puts_app, HP.out]; rfl)
        have F4 := Aside0.mk (show AllFit (qs ++ [(x, n)]) from by
          intro q hq
          rcases List.mem_append.1 hq with hq | hq
          · exact HF.out q hq
          · simp at hq; rw [hq]; exact ⟨hf, hx⟩)
        rw [e1] at W4 V4 P4
        have hlq : (qs ++ [(x, n)]).length = qs.length + 1 := by simp
        have HPC := Aside0.mk (pcells_snoc qs x n)
        clear e1 hf
        go_wp2_with (at_builtin; refine print_append_cells (w0 := w4) w1.heap.size rfl (.tmp 42) (.tmp 47) 40 44 (.agg #[.int .u32 0, .int .i64 0]) 2 16 rfl Try.underlying40 info_part rfl (by decide) (by decide) u5 qs.length (pcells qs) [.int .u32 (x : Int), .int .i64 n] rfl rfl rfl (by intro u hu; simp at hu; rcases hu with rfl | rfl <;> rfl) O4.out (Below.refl _ _) hs4 (by omega) ?_; intro v5 w5 hown5 hbel5 hgr5 hat5)
        have O5 : Aside0 (OP w5 w1.heap.size v5 (qs ++ [(x, n)])) := ⟨by unfold OP; rw [HPC.out, hlq]; exact hown5⟩
        have W5 := Aside0.mk (W4.out.keep (Keep.of_grown hgr5) (apart_parts W4.out O4.out))
        have hbr5 := hbr4.trans (hbel5.mono h01)
        clear hown5 hgr5 hat5 hbel5
        go_roundw
        case rel => exact ⟨k + 1, by omega, by go_num, v4, bs4, m + n.toNat, qs ++ [(x, n)], W5, O5, ⟨by rw [P4.out, V4.out]⟩, F4, by omega, by omega, hbr5⟩
        case measure => simp [intOf]; omega
    · obtain rfl : k = ps.length := by omega
      go_wp2_with fail
      refine (close_any _ _ _ _ _ _ HW.out (by omega)).mono ?_
      rintro e w6 ⟨r6, rs, rfl, ho6, hl6, hv6, hb6⟩
      obtain ⟨A6, c6, rfl, q6⟩ := ho6.reads
      have Q6 := Aside0.mk q6
      have hb6' := below_then hbr hbr.size hb6
      have W6 := Aside0.mk (HW.out.below hb6)
      have O6 := Aside0.mk (show OP w6 w1.heap.size u5 qs from pw_own_below HO.out hb6)
      have hcm := closed_marked rs (val bs) m q6.1 hl6 hv6 HW.out.vlt
      have HCM := Aside0.mk hcm
      have hrl : rs.length ≤ 1000 := by omega
      have HVR := Aside0.mk (show val rs = (puts (0, 0) qs).1 + 2 ^ (puts (0, 0) qs).2 by rw [hv6, HP.out])
      clear ho6 q6 hl6 hv6 hb6 hcm HO
      go_wp2_with fail
      refine (new_yes _ A6 c6 rs Q6.out hrl HCM.out.1).mono ?_
      rintro e w7 ⟨gx, vx, rfl, hx7, hb7⟩
      rw [HCM.out.2] at hx7
      have hb7' := below_then hb6' hb6'.size hb7
      have X7 := Aside0.mk hx7
      have W7 := Aside0.mk (W6.out.below hb7)
      have h06 := hb6'.size
      have hfx : ∀ i, i = gx → w6.heap.size ≤ i := fun i hi => by have := X7.out.base; omega
      clear hx7
      go_wp2_with fail
      refine (left_any _ _ _ _ _ _ X7.out).mono ?_
      rintro e w8 ⟨rfl, rfl⟩
      go_wp2_with fail
      refine (bits_any _ _ _ _ _ _ W7.out).mono ?_
      rintro e w8 ⟨rfl, rfl⟩
      obtain ⟨Ap, cp, rfl, hqp⟩ := OP.reads O6.out (fun q hq => ⟨(HF.out q hq).2, by
        have := (fits_iff q.2).1 (HF.out q hq).1
        simp [Lit.wf, IntKind.min, IntKind.max, IntKind.signed, IntKind.bits]; omega⟩)
      have QP := Aside0.mk hqp
      clear hqp O6 Q6 W6 W7
      go_wp2_with fail
      go_loopw [10] (fun i wr => ∃ kk : Nat, kk ≤ qs.length ∧ i = .int .i64 ((kk : Int) - 1) ∧ Aside0 (Rd wr w6.heap.size gx vx rs (puts (0, 0) (qs.take kk)).2) ∧ Below w6.heap.size w6 wr) (fun i _ => (intOf i + 1).toNat)
      case atStart => exact ⟨qs.length, by omega, by go_num, by rw [List.take_length, HP.out]; exact X7, hb7⟩
      case round =>
        obtain ⟨kk, hkk, rfl, HX, hbx⟩ := hrel
        rcases Nat.eq_zero_or_pos kk with h0 | h0
        · subst h0
          go_wp2_with fail
          refine (take_no _ _ _ 0 1 _ _ (show Rd _ _ _ _ _ 0 from HX.out) (by omega)).mono ?_
          rintro e w9 ⟨rfl, rfl⟩
          go_wp2_with fail
          refine (left_any _ _ _ 0 _ _ (show Rd _ _ _ _ _ 0 from HX.out)).mono ?_
          rintro e w9 ⟨rfl, rfl⟩
          have hfin := below_then hb6' hb6'.size hbx
          go_wp2_with fail
          go_ret
          exact ⟨rfl, hfin⟩
        · obtain ⟨j, rfl⟩ : ∃ j, kk = j + 1 := ⟨kk - 1, by omega⟩
          have ej : (((j + 1 : Nat) : Int) - 1) = (j : Int) := by omega
          rw [ej]
          clear ej
          obtain ⟨ad, rfl, hw0, hw1⟩ := (QP.out).at_ j (by omega)
          have hc0 := pw_cell_below hbx hw0
          have hc1 := pw_cell_below hbx hw1
          have hmem : qs.getD j (0, 0) ∈ qs := by rw [List.getD_eq_getElem?_getD, List.getElem?_eq_getElem (by omega)]; exact List.getElem_mem _
          have hfit := HF.out _ hmem
          have hb1 := back_one qs j (by omega) hfit.1
          rw [← HVR.out] at hb1
          have hn24 := (fits_iff _).1 hfit.1
          have hx32 := hfit.2
          clear hmem hfit
          generalize qs.getD j (0, 0) = q at *
          obtain ⟨x, n⟩ := q
          dsimp only at hw0 hw1 hc0 hc1 hb1 hn24 hx32
          obtain ⟨nn, rfl⟩ := Int.eq_ofNat_of_zero_le hn24.1
          rw [Int.toNat_natCast] at hb1
          have HB1 := Aside0.mk hb1
          rw [hb1.1] at HX
          clear hb1
          generalize hm' : (puts (0, 0) (qs.take j)).2 = m' at *
          have HM' := Aside0.mk hm'
          clear hm'
          go_wp2_with fail
          refine (take_any _ _ _ _ nn _ _ HX.out (by omega) (by omega) (by omega)).mono ?_
          rintro e w9 ⟨rfl, hx9, hk9⟩
          have hbx9 := hbx.trans (hk9.below hbx.size hfx)
          have ev : val rs / 2 ^ (m' + nn - nn) % 2 ^ nn = x % 2 ^ nn := by rw [Nat.add_sub_cancel]; exact HB1.out.2
          rw [ev]
          rw [Nat.add_sub_cancel] at hx9
          have X9 := Aside0.mk hx9
          have hd0 := pw_cell_below hbx9 hw0
          have hd1 := pw_cell_below hbx9 hw1
          clear hc0 hc1 hw0 hw1
          clear hx9 hk9 ev HB1
          have HMK := Aside0.mk (mask_walk x nn hx32 (by omega))
          have HZ : x % 2 ^ nn < 4294967296 := Nat.lt_of_le_of_lt (Nat.mod_le _ _) hx32
          generalize x % 2 ^ nn = Z at *
          go_wp2_with fail
          go_quiet (fail)
          rw [HMK.out]
          have X10 := Aside0.mk (show Rd (w9.drewN nq) _ _ _ _ _ from X9.out.drewN' nq)
          have hbx10 := pw_below_drewN hbx9 nq
          go_wp2_with fail
          go_roundw
          case rel => exact ⟨j, by omega, by go_num, by rw [HM'.out]; exact X10, hbx10⟩
          case measure => simp [intOf] <;> omega

theorem back_walk (a0 : Option Addr) (len0 cap0 : Nat) (z0 : List (Nat × Int)) (w : World) (w0 : len0 = z0.length ∧ RP w a0 z0) :
    Calls Try.prog 12 #[.slice a0 len0 cap0] w fun e w' => e = .returned (.bool true) ∧ Below w.heap.size w w' := by
  obtain ⟨rfl, hr⟩ := w0
  by_cases h : 60 < z0.length
  · exact back_long cap0 a0 _ w h
  · exact back_short cap0 a0 z0 w hr (by omega)
end Go.Proofs.Ytohgkdiagekmbaa.Bitr
