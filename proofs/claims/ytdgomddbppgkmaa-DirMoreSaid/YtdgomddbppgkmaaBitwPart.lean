/- Proved here: what the functions of package bitw do to memory: a writer is a block of two cells, a row of bytes, and their number. Conditions: each theorem's own. -/
import Derived.Test.YtdgomddbppgkmaaProg
import Derived.Test.YtdgomddbppgkmaaBase
import Derived.Test.YtdgomddbppgkmaaBitsMath
import Derived.BigRegion
import Derived.WalkSpells
import Derived.Deep.RegionHeld3
namespace Go.Proofs.Ytdgomddbppgkmaa.Bitw
open Go.RowKit Go.Proofs.YtdgomddbppgkmaaW.PrintWords Go.Proofs.Ytdgomddbppgkmaa.CrcM Go.Proofs.Ytdgomddbppgkmaa.BitsM Go.Proofs.Ytdgomddbppgkmaa.Base

theorem info_u8 : (Try.prog.info? 5).map (fun i => (i.zero, i.size, i.bytes)) = some (some (.int .u8 0), 1, 1) := by kernel_rfl
def foot (g : Nat) (v : Value) (i : Nat) : Prop := i = g ∨ some i = v.ownBlock
structure Wr (w : World) (B g : Nat) (v : Value) (bs : List Nat) (m : Nat) : Prop where
  base : B ≤ g
  blk : w.heap[g]? = some (.cells #[v, .int .i64 (m : Int)] 59 (0, 0))
  row : OB w B 5 v bs
  len : bs.length = (m + 7) / 8
  vlt : val bs < 2 ^ m
/-- Where the row lies behind an operation. -/
def Next (w : World) (v v' : Value) : Prop := v'.ownBlock = v.ownBlock ∨ ∃ b, v'.ownBlock = some b ∧ w.heap.size ≤ b

set_option maxRecDepth 100000 in
set_option maxHeartbeats 400000 in
theorem new_any (w : World) (base : Nat) (hb : base ≤ w.heap.size) : Calls Try.prog 30 #[] w fun e w' => e = .returned (.pointer (some ⟨w.heap.size, 0, none⟩)) ∧ Wr w' base w.heap.size (.slice none 0 0) [] 0 ∧ Below w.heap.size w w' := by
  go_enter Try.func30, Try.ntmps30
  go_wp2
  go_ret
  exact ⟨rfl, ⟨hb, heap_alloc_new w _, OB.nil _ _ _, rfl, by simp [CrcM.val]⟩, below_alloc (Below.refl _ _) _⟩

theorem bit_val (c x r : Nat) (hc : c < 256) (hx : x < 4294967296) (hr : r < 8) : bits .or .u8 (c : Int) (bits .and .u32 (x : Int) 1 % 256 * 2 ^ r % 256) = ((c ||| x % 2 * 2 ^ r : Nat) : Int) := by
  have e := u32_and_nat x 1 hx (by omega)
  rw [Nat.and_one_is_mod] at e
  have e' : bits .and .u32 (x : Int) 1 = ((x % 2 : Nat) : Int) := e
  have hp : 2 ^ r ≤ 2 ^ 7 := Nat.pow_le_pow_right (by omega) (by omega)
  have e2 : ((2 : Int) ^ r) = ((2 ^ r : Nat) : Int) := by simp
  have h2 : x % 2 = 0 ∨ x % 2 = 1 := by omega
  rw [e', e2]
  generalize 2 ^ r = P at *
  have e3 : ((x % 2 : Nat) : Int) % 256 * (P : Int) % 256 = ((x % 2 * P : Nat) : Int) := by
    rcases h2 with h | h <;> rw [h] <;> omega
  rw [e3]
  exact u8_or_nat c _ hc (by rcases h2 with h | h <;> rw [h] <;> omega)

set_option maxRecDepth 100000 in
set_option maxHeartbeats 400000 in
theorem bit_any (w : World) (base g m x : Nat) (v : Value) (bs : List Nat) (h : Wr w base g v bs m) (hm : m ≤ 100000) (hx : x < 4294967296) :
    Calls Try.prog 38 #[.pointer (some ⟨g, 0, none⟩), .int .u32 (x : Int)] w fun e w' => e = .returned (.tuple #[]) ∧
      ∃ v' bs', Wr w' base g v' bs' (m + 1) ∧ val bs' = val bs + 2 ^ m * (x % 2) ∧ Keep (foot g v) w w' ∧ Next w v v' := by
  have H := Aside0.mk h
  have hc0 : w.cell? ⟨g, 0, none⟩ = some v := blk_cell h.blk 0
  have hc1 : w.cell? ⟨g, 1, none⟩ = some (.int .i64 (m : Int)) := blk_cell h.blk 1
  have hf0 : w.frozen? ⟨g, 0, none⟩ = false := blk_frozen h.blk 0
  have hf1 : w.frozen? ⟨g, 1, none⟩ = false := blk_frozen h.blk 1
  clear h
  by_cases h8 : m % 8 = 0
  · have ht : ((m : Int) % 8 == 0) = true := by rw [beq_iff_eq]; omega
    have H8 := Aside0.mk h8
    clear h8
    go_enter Try.func38, Try.ntmps38
    go_wp2_with (at_builtin; refine OB.append1 (w0 := w) base rfl (.tmp 14) (.tmp 15) 22 5 rfl Try.underlying22 info_u8 v bs 0 (by omega) rfl rfl H.out.row (Below.refl _ _) (Nat.le_trans H.out.base (Nat.le_of_lt (blk_lt H.out.blk))) (by have := H.out.len; omega) ?_; intro v1 w1 hown1 hbel1 hgr1 hat1; obtain ⟨r1, p1, rfl, hr1, hr1'⟩ := hown1.form' (n := m / 8 + 1) (by have := H.out.len; have := H8.out; simp; omega) (by omega); have HB1 := Aside0.mk (blk_grown H.out.blk hgr1 (H.out.row.ne_blk H.out.blk (by decide))); have hc01 := blk_cell HB1.out 0; have hf01 := blk_frozen HB1.out 0; have hc11 := blk_cell HB1.out 1; have hf11 := blk_frozen HB1.out 1)
    have hgr : g ≠ r1 := fun e => (hown1.ne_blk HB1.out (by decide)) (by rw [e]; rfl)
    have hblk := blk_set HB1.out 0 (.slice (some ⟨r1, 0, none⟩) (m / 8 + 1) p1)
    have HROW := Aside0.mk (hown1.keep ((Keep.refl (fun i => i = g) w1).setCell ⟨g, 0, none⟩ (fun _ => rfl) (.slice (some ⟨r1, 0, none⟩) (m / 8 + 1) p1)) (fun k hk => by injection hk with hk; intro e; exact hgr (e ▸ hk.symm)))
    have HKEEP := Aside0.mk (((Keep.of_grown hgr1).mono (T := foot g v) (fun i _ hi => .inr hi)).setCell ⟨g, 0, none⟩ (fun _ => .inl rfl) (.slice (some ⟨r1, 0, none⟩) (m / 8 + 1) p1))
    have HNEXT := Aside0.mk (show Next w v (.slice (some ⟨r1, 0, none⟩) (m / 8 + 1) p1) from hat1)
    have HLEN := Aside0.mk (show (bs ++ [0]).length = m / 8 + 1 by have := H.out.len; have := H8.out; simp; omega)
    have HVAL := Aside0.mk (val_zero bs)
    clear hown1 hbel1 hgr1 hat1 HB1 hc01 hf01 hc11 hf11 hr1 hr1' hc0 hc1 hf0 hf1
    generalize w1.setCell ⟨g, 0, none⟩ (.slice (some ⟨r1, 0, none⟩) (m / 8 + 1) p1) = W at *
    generalize bs ++ [0] = cs at *
    simp only [List.setIfInBounds_toArray, List.set_cons_zero] at hblk
    have HBLK := Aside0.mk hblk
    have hc0 := blk_cell hblk 0
    have hc1 := blk_cell hblk 1
    have hf0 := blk_frozen hblk 0
    have hf1 := blk_frozen hblk 1
    clear hblk
    obtain ⟨hx1, hx2⟩ := HROW.out.at' HLEN.out (m / 8) (by omega)
    have hvm : val cs < 2 ^ m := by rw [HVAL.out]; exact H.out.vlt
    have hst := BitsM.step cs m (x % 2) HROW.out.1 HLEN.out hvm (by omega)
    have hc8 : cs.getD (m / 8) 0 < 256 := Nat.lt_of_lt_of_le (last_lt cs m HROW.out.1 hvm) (Nat.le_trans (Nat.pow_le_pow_right (by omega) (show m % 8 ≤ 8 by omega)) (by decide))
    have HV := Aside0.mk (bit_val (cs.getD (m / 8) 0) x (m % 8) hc8 hx (by omega))
    have HST := Aside0.mk hst
    clear hst hvm hc8
    go_region
    rw [← List.getD_eq_getElem?_getD, HV.out]
    obtain ⟨y, hy⟩ : ∃ y, y = cs.getD (m / 8) 0 ||| x % 2 * 2 ^ (m % 8) := ⟨_, rfl⟩
    rw [← hy] at HST ⊢
    have P1 := HROW.out.store' HLEN.out (m / 8) y HST.out.1
    have HROW2 := Aside0.mk P1.1.drew
    have HKEEP2 := Aside0.mk (((HKEEP.out.trans (Keep.of_grown P1.2) (T := fun i => some i = some r1) (fun i hi hs => by
      injection hs with hs
      rcases HNEXT.out with hn | ⟨b, hn, hb⟩
      · exact .inr (by rw [← hn, hs]; rfl)
      · have : r1 = b := by injection hn
        omega))).drew)
    have hblk2 := blk_far HBLK.out (p := ⟨r1, m / 8, none⟩) hgr (.int .u8 (y : Int))
    have hblk3 : (W.setCell ⟨r1, m / 8, none⟩ (.int .u8 (y : Int))).drew.heap[g]? = some (.cells #[.slice (some ⟨r1, 0, none⟩) (m / 8 + 1) p1, .int .i64 (m : Int)] 59 (0, 0)) := hblk2
    clear hx1 hx2 hc0 hc1 hf0 hf1 hblk2 P1
    generalize (W.setCell ⟨r1, m / 8, none⟩ (.int .u8 (y : Int))).drew = W2 at *
    have hc1 := blk_cell hblk3 1
    have hf1 := blk_frozen hblk3 1
    have HB3 := Aside0.mk hblk3
    have HY := Aside0.mk hy
    clear hblk3 hy
    go_wp2_with fail
    have hblk4 := blk_set HB3.out 1 (.int .i64 ((m + 1 : Nat) : Int))
    simp only [List.setIfInBounds_toArray, List.set_cons_zero, List.set_cons_succ] at hblk4
    go_end0
    refine ⟨rfl, _, cs.set (m / 8) y, ⟨H.out.base, hblk4, HROW2.out.keep ((Keep.refl (fun i => i = g) W2).setCell ⟨g, 1, none⟩ (fun _ => rfl) _) (fun k hk => by injection hk with hk; intro e; exact hgr (e ▸ hk.symm)), ?_, ?_⟩, ?_, HKEEP2.out.setCell ⟨g, 1, none⟩ (fun _ => .inl rfl) _, HNEXT.out⟩
    · rw [List.length_set, HLEN.out]; omega
    · rw [HST.out.2, HVAL.out]
      exact add_lt_pow H.out.vlt 1 (by omega)
    · rw [HST.out.2, HVAL.out]
  · have ht : ((m : Int) % 8 == 0) = false := by rw [beq_eq_false_iff_ne]; omega
    have HLEN := Aside0.mk (show bs.length = m / 8 + 1 by have := H.out.len; omega)
    clear h8
    obtain ⟨r1, p1, rfl, hr1, hr1'⟩ := H.out.row.form' HLEN.out (by omega)
    have hgr : g ≠ r1 := fun e => (H.out.row.ne_blk H.out.blk (by decide)) (by rw [e]; rfl)
    go_enter Try.func38, Try.ntmps38
    go_wp2_with fail
    have HKEEP := Aside0.mk (Keep.refl (foot g (.slice (some ⟨r1, 0, none⟩) (m / 8 + 1) p1)) w)
    have HNEXT := Aside0.mk (show Next w (.slice (some ⟨r1, 0, none⟩) (m / 8 + 1) p1) (.slice (some ⟨r1, 0, none⟩) (m / 8 + 1) p1) from .inl rfl)
    have HROW := Aside0.mk H.out.row
    have HBLK := Aside0.mk H.out.blk
    obtain ⟨hx1, hx2⟩ := HROW.out.at' HLEN.out (m / 8) (by omega)
    have hvm : val bs < 2 ^ m := H.out.vlt
    have hst := BitsM.step bs m (x % 2) HROW.out.1 HLEN.out hvm (by omega)
    have hc8 : bs.getD (m / 8) 0 < 256 := Nat.lt_of_lt_of_le (last_lt bs m HROW.out.1 hvm) (Nat.le_trans (Nat.pow_le_pow_right (by omega) (show m % 8 ≤ 8 by omega)) (by decide))
    have HV := Aside0.mk (bit_val (bs.getD (m / 8) 0) x (m % 8) hc8 hx (by omega))
    have HST := Aside0.mk hst
    clear hst hvm hc8
    go_region
    rw [← List.getD_eq_getElem?_getD, HV.out]
    obtain ⟨y, hy⟩ : ∃ y, y = bs.getD (m / 8) 0 ||| x % 2 * 2 ^ (m % 8) := ⟨_, rfl⟩
    rw [← hy] at HST ⊢
    have P1 := HROW.out.store' HLEN.out (m / 8) y HST.out.1
    have HROW2 := Aside0.mk P1.1.drew
    have HKEEP2 := Aside0.mk (((HKEEP.out.trans (Keep.of_grown P1.2) (T := fun i => some i = some r1) (fun i hi hs => by
      injection hs with hs
      rcases HNEXT.out with hn | ⟨b, hn, hb⟩
      · exact .inr (by rw [← hn, hs]; rfl)
      · have : r1 = b := by injection hn
        omega))).drew)
    have hblk2 := blk_far HBLK.out (p := ⟨r1, m / 8, none⟩) hgr (.int .u8 (y : Int))
    have hblk3 : (w.setCell ⟨r1, m / 8, none⟩ (.int .u8 (y : Int))).drew.heap[g]? = some (.cells #[.slice (some ⟨r1, 0, none⟩) (m / 8 + 1) p1, .int .i64 (m : Int)] 59 (0, 0)) := hblk2
    clear hx1 hx2 hc0 hc1 hf0 hf1 hblk2 P1
    generalize (w.setCell ⟨r1, m / 8, none⟩ (.int .u8 (y : Int))).drew = W2 at *
    have hc1 := blk_cell hblk3 1
    have hf1 := blk_frozen hblk3 1
    have HB3 := Aside0.mk hblk3
    have HY := Aside0.mk hy
    clear hblk3 hy
    go_wp2_with fail
    have hblk4 := blk_set HB3.out 1 (.int .i64 ((m + 1 : Nat) : Int))
    simp only [List.setIfInBounds_toArray, List.set_cons_zero, List.set_cons_succ] at hblk4
    go_end0
    refine ⟨rfl, _, bs.set (m / 8) y, ⟨H.out.base, hblk4, HROW2.out.keep ((Keep.refl (fun i => i = g) W2).setCell ⟨g, 1, none⟩ (fun _ => rfl) _) (fun k hk => by injection hk with hk; intro e; exact hgr (e ▸ hk.symm)), ?_, ?_⟩, ?_, HKEEP2.out.setCell ⟨g, 1, none⟩ (fun _ => .inl rfl) _, HNEXT.out⟩
    · rw [List.length_set, HLEN.out]; omega
    · rw [HST.out.2]
      exact add_lt_pow H.out.vlt 1 (by omega)
    · rw [HST.out.2]

/-- After i of the bits that are put. -/
theorem fresh_foot {w : World} {g : Nat} {v v1 : Value} (hn : Next w v v1) : ∀ i, i < w.heap.size → foot g v1 i → foot g v i := by
  rintro i hi (e | e)
  · exact .inl e
  · rcases hn with hn | ⟨b, hb, hle⟩
    · exact .inr (by rw [← hn]; exact e)
    · rw [hb] at e
      injection e with e
      omega
theorem Next.trans {w w1 : World} {v v1 v2 : Value} (h : Next w v v1) (hs : w.heap.size ≤ w1.heap.size) (k : Next w1 v1 v2) : Next w v v2 := by
  rcases k with k | ⟨b, hb, hle⟩
  · rcases h with h | ⟨c, hc, hle⟩
    · exact .inl (k.trans h)
    · exact .inr ⟨c, k.trans hc, hle⟩
  · exact .inr ⟨b, hb, by omega⟩

set_option maxRecDepth 100000 in
set_option maxHeartbeats 400000 in
theorem put_any (w : World) (base g m x n : Nat) (v : Value) (bs : List Nat) (h : Wr w base g v bs m) (hm : m + n ≤ 100000) (hx : x < 4294967296) (hn : n ≤ 24) :
    Calls Try.prog 32 #[.pointer (some ⟨g, 0, none⟩), .int .u32 (x : Int), .int .i64 (n : Int)] w fun e w' => e = .returned (.bool true) ∧
      ∃ v' bs', Wr w' base g v' bs' (m + n) ∧ val bs' = val bs + 2 ^ m * (x % 2 ^ n) ∧ Keep (foot g v) w w' ∧ Next w v v' := by
  have H := Aside0.mk h
  clear h
  go_enter Try.func32, Try.ntmps32
  go_wp2_with fail
  go_loopw [15] (fun i wr => ∃ k : Nat, k ≤ n ∧ i = .int .i64 k ∧ ∃ v' bs', Aside0 (Wr wr base g v' bs' (m + k)) ∧ Aside0 (val bs' = val bs + 2 ^ m * (x % 2 ^ k)) ∧ Aside0 (Keep (foot g v) w wr) ∧ Aside0 (Next w v v')) (fun i _ => n - (intOf i).toNat)
  case atStart => exact ⟨0, by omega, rfl, v, bs, H, ⟨by simp [Nat.mod_one]⟩, ⟨Keep.refl _ _⟩, ⟨.inl rfl⟩⟩
  case round =>
    obtain ⟨k, hk, rfl, v', bs', HW, HV, HK, HN⟩ := hrel
    by_cases hlt : k < n
    · have hxk : x / 2 ^ k < 4294967296 := Nat.lt_of_le_of_lt (Nat.div_le_self _ _) hx
      have HSH := Aside0.mk (show ((x : Int) / 2 ^ k) = ((x / 2 ^ k : Nat) : Int) by simp)
      go_wp2_with fail
      rw [HSH.out]
      refine (bit_any _ base g (m + k) (x / 2 ^ k) v' bs' HW.out (by omega) hxk).mono ?_
      rintro e w1 ⟨rfl, v1, bs1, hw1, hv1, hk1, hn1⟩
      have R1 := Aside0.mk hw1
      have R2 := Aside0.mk (show val bs1 = val bs + 2 ^ m * (x % 2 ^ (k + 1)) by rw [hv1, HV.out, put_step])
      have R3 := Aside0.mk (HK.out.trans hk1 (fresh_foot HN.out))
      have R4 := Aside0.mk (HN.out.trans HK.out.size hn1)
      clear hw1 hv1 hk1 hn1
      go_wp2_with fail
      go_roundw
      case rel => exact ⟨k + 1, by omega, by go_num, v1, bs1, R1, R2, R3, R4⟩
      case measure => simp [intOf]; omega
    · obtain rfl : k = n := by omega
      go_wp2_with fail
      go_ret
      exact ⟨rfl, v', bs', HW.out, HV.out, HK.out, HN.out⟩
set_option maxRecDepth 100000 in
set_option maxHeartbeats 400000 in
theorem put_no (w : World) (g x : Nat) (n : Int) (hn : n < 0 ∨ 24 < n) :
    Calls Try.prog 32 #[.pointer (some ⟨g, 0, none⟩), .int .u32 (x : Int), .int .i64 n] w fun e w' => e = .returned (.bool false) ∧ w = w' := by
  rcases hn with h | h
  · go_enter Try.func32, Try.ntmps32
    go_wp2_with fail
    go_ret
    exact ⟨rfl, rfl⟩
  · have h0 : ¬ n < 0 := by omega
    go_enter Try.func32, Try.ntmps32
    go_wp2_with fail
    go_ret
    exact ⟨rfl, rfl⟩
set_option maxRecDepth 100000 in
set_option maxHeartbeats 400000 in
theorem bits_any (w : World) (base g m : Nat) (v : Value) (bs : List Nat) (h : Wr w base g v bs m) :
    Calls Try.prog 31 #[.pointer (some ⟨g, 0, none⟩)] w fun e w' => e = .returned (.int .i64 (m : Int)) ∧ w = w' := by
  have hc1 : w.cell? ⟨g, 1, none⟩ = some (.int .i64 (m : Int)) := blk_cell h.blk 1
  clear h
  go_enter Try.func31, Try.ntmps31
  go_wp2_with fail
  go_ret
  exact ⟨rfl, rfl⟩
set_option maxRecDepth 100000 in
set_option maxHeartbeats 400000 in
theorem clone_any (w : World) (A : Option Addr) (c : Nat) (bs : List Nat) (h : RB w A bs) (hn : bs.length ≤ 1000000) :
    Calls Try.prog 29 #[.slice A bs.length c] w fun e w' => ∃ r, e = .returned r ∧ OB w' w.heap.size 5 r bs ∧ Below w.heap.size w w' := by
  have heq : ∀ (a : Option Addr) (n c : Nat) (w : World), (binOp .eql 22 (.slice a n c) (.slice none 0 0)).run Try.prog w = .ok (.bool a.isNone) w := fun a n c w => Lib.run_eql_slice_nil w 22 5 a n c 0 0 Try.underlying22
  have HR := Aside0.mk h
  clear h
  rcases A with _ | ad
  · have h0 : bs.length = 0 := by
      rcases Nat.eq_zero_or_pos bs.length with h0 | h0
      · exact h0
      · obtain ⟨ad, e, _⟩ := HR.out.at_ 0 h0
        cases e
    obtain rfl := List.eq_nil_of_length_eq_zero h0
    go_enter Try.func29, Try.ntmps29
    go_wp2_with fail
    go_ret
    exact ⟨_, rfl, OB.nil _ _ _, Below.refl _ _⟩
  · go_enter Try.func29, Try.ntmps29
    go_wp2_with (at_builtin; refine OB.append (w0 := w) w.heap.size rfl (.tmp 5) (.tmp 6) 22 5 rfl Try.underlying22 info_u8 _ [] bs (some ad) c rfl rfl (OB.lit w _ _ [] (by simp) (Nat.le_refl _) (by simp)) (HR.out.below (below_alloc (Below.refl _ _) _)) (below_alloc (Below.refl _ _) _) (by simp) (by simp; omega) ?_; intro v1 w3 hown1 hbel1 hgr1 hat1; rw [List.nil_append] at hown1)
    go_ret
    exact ⟨_, rfl, hown1, hbel1⟩

set_option maxRecDepth 100000 in
set_option maxHeartbeats 400000 in
theorem bytes_any (w : World) (base g m : Nat) (v : Value) (bs : List Nat) (h : Wr w base g v bs m) (hm : m ≤ 100000) :
    Calls Try.prog 33 #[.pointer (some ⟨g, 0, none⟩)] w fun e w' => ∃ r, e = .returned r ∧ OB w' w.heap.size 5 r bs ∧ Below w.heap.size w w' := by
  obtain ⟨A, c, rfl, hr⟩ := h.row.reads
  have HR := Aside0.mk hr
  have hc0 : w.cell? ⟨g, 0, none⟩ = some (.slice A bs.length c) := blk_cell h.blk 0
  have HL := Aside0.mk h.len
  clear h hr
  go_enter Try.func33, Try.ntmps33
  go_wp2_with fail
  refine (clone_any _ A c bs HR.out (by have := HL.out; omega)).mono ?_
  rintro e w1 ⟨r, rfl, hown, hbel⟩
  go_wp2_with fail
  go_ret
  exact ⟨r, rfl, hown, hbel⟩

end Go.Proofs.Ytdgomddbppgkmaa.Bitw
