/- Proved here: what the functions of package bitf that the directory's iterator calls do to memory: a reader from the front is a block of two cells, a row of bytes, and which bit is next. Conditions: each theorem's own. -/
import Derived.Test.YtdgomddbppgkmaaBitwPart
namespace Go.Proofs.Ytdgomddbppgkmaa.Dir
open Go.RowKit Go.Proofs.YtdgomddbppgkmaaW.PrintWords Go.Proofs.Ytdgomddbppgkmaa.CrcM Go.Proofs.Ytdgomddbppgkmaa.BitsM Go.Proofs.Ytdgomddbppgkmaa.Base Go.Proofs.Ytdgomddbppgkmaa.Bitw

structure Rf (w : World) (B g : Nat) (v : Value) (bs : List Nat) (at_ : Nat) : Prop where
  base : B ≤ g
  blk : w.heap[g]? = some (.cells #[v, .int .i64 (at_ : Int)] 67 (0, 0))
  row : OB w B 5 v bs
theorem Rf.lt {w : World} {B g at_ : Nat} {v : Value} {bs : List Nat} (h : Rf w B g v bs at_) : g < w.heap.size := blk_lt h.blk
/-- What the iterator's reader wants kept: the blocks of cells of its own types lie as they lay. -/
structure Kr (w w' : World) : Prop where
  size : w.heap.size ≤ w'.heap.size
  same : ∀ (k : Nat) (cs : Array Value) (t : TypeId) (fr : Nat × Nat), w.heap[k]? = some (.cells cs t fr) → (t = 67 ∨ t = 5 ∨ t = 22) → w'.heap[k]? = some (.cells cs t fr)
theorem Kr.refl (w : World) : Kr w w := ⟨Nat.le_refl _, fun _ _ _ _ h _ => h⟩
theorem Kr.trans {a b c : World} (h : Kr a b) (k : Kr b c) : Kr a c := ⟨Nat.le_trans h.size k.size, fun i cs t fr hi ht => k.same i cs t fr (h.same i cs t fr hi ht) ht⟩
theorem Rf.kept {w w' : World} {B g at_ : Nat} {v : Value} {bs : List Nat} (h : Rf w B g v bs at_) (hk : Kr w w') : Rf w' B g v bs at_ := by
  refine ⟨h.base, hk.same _ _ _ _ h.blk (.inl rfl), h.row.1, h.row.2.1, ?_⟩
  rcases h.row.2.2 with hn | ⟨r, cap, cur, hv, hb, hgg, rest⟩
  · exact .inl hn
  · exact .inr ⟨r, cap, cur, hv, hb, hk.same _ _ _ _ hgg (.inr (.inl rfl)), rest⟩

set_option maxRecDepth 100000 in
set_option maxHeartbeats 400000 in
theorem fnew_any (w : World) (A : Option Addr) (c : Nat) (bs : List Nat) (hr : RB w A bs) (hn : bs.length ≤ 1000) :
    Calls Try.prog 40 #[.slice A bs.length c] w fun e w' => ∃ g v, e = .returned (.pointer (some ⟨g, 0, none⟩)) ∧ Rf w' w.heap.size g v bs 0 ∧ Below w.heap.size w w' := by
  have HR := Aside0.mk hr
  clear hr
  go_enter Try.func40, Try.ntmps40
  go_wp2_with fail
  refine (clone_any w A c bs HR.out (by omega)).mono ?_
  rintro e w1 ⟨r, rfl, ho, hb⟩
  have H1 := Aside0.mk (show Rf (w1.alloc (.cells #[r, .int .i64 0] 67)) w.heap.size w1.heap.size r bs 0 from
    ⟨hb.size, heap_alloc_new w1 _, (show OB w1 w.heap.size 5 r bs from ho).below (below_alloc (Below.refl _ _) _)⟩)
  have hb2 := hb.alloc hb.size (.cells #[r, .int .i64 0] 67)
  obtain ⟨A1, c1, rfl, -⟩ := ho.reads
  clear ho hb
  go_wp2_with fail
  go_ret
  exact ⟨_, _, rfl, H1.out, hb2⟩
set_option maxRecDepth 100000 in
set_option maxHeartbeats 400000 in
theorem fleft_any (w : World) (B g at_ : Nat) (v : Value) (bs : List Nat) (h : Rf w B g v bs at_) (hn : bs.length ≤ 1000) (ha : at_ ≤ 8 * bs.length) :
    Calls Try.prog 43 #[.pointer (some ⟨g, 0, none⟩)] w fun e w' => e = .returned (.int .i64 ((8 * bs.length - at_ : Nat) : Int)) ∧ ∃ q, w' = w.drewN q := by
  obtain ⟨A, c, rfl, -⟩ := h.row.reads
  have hc0 : w.cell? ⟨g, 0, none⟩ = some (.slice A bs.length c) := blk_cell h.blk 0
  have hc1 : w.cell? ⟨g, 1, none⟩ = some (.int .i64 (at_ : Int)) := blk_cell h.blk 1
  clear h
  have e1 : (8 * (bs.length : Int) - (at_ : Int)) = ((8 * bs.length - at_ : Nat) : Int) := by omega
  go_enter Try.func43, Try.ntmps43
  go_wp2_with fail
  go_quiet (fail)
  go_wp2_with fail
  go_ret
  exact ⟨rfl, nq, rfl⟩
theorem bit_low (V i x : Nat) (h : x = V / 2 ^ (8 * (i / 8)) % 256) : V / 2 ^ i % 2 = x / 2 ^ (i % 8) % 2 := by
  have e : V / 2 ^ i = V / 2 ^ (8 * (i / 8)) / 2 ^ (i % 8) := by
    rw [Nat.div_div_eq_div_mul, ← Nat.pow_add]; congr 2; omega
  rw [e, h]
  generalize V / 2 ^ (8 * (i / 8)) = Y
  have hr : i % 8 = 0 ∨ i % 8 = 1 ∨ i % 8 = 2 ∨ i % 8 = 3 ∨ i % 8 = 4 ∨ i % 8 = 5 ∨ i % 8 = 6 ∨ i % 8 = 7 := by omega
  rcases hr with h | h | h | h | h | h | h | h <;> rw [h] <;> omega
theorem take_val (x r : Nat) (hx : x < 256) : bits .or .u32 0 (bits .and .u8 ((x : Int) / 2 ^ r) 1 % 4294967296) = ((x / 2 ^ r % 2 : Nat) : Int) := by
  rw [div_pow_cast]
  have hq : x / 2 ^ r < 256 := Nat.lt_of_le_of_lt (Nat.div_le_self _ _) hx
  generalize x / 2 ^ r = y at *
  have e := u8_and_nat y 1 (by omega) (by omega)
  rw [Nat.and_one_is_mod] at e
  have e' : bits .and .u8 (y : Int) 1 = ((y % 2 : Nat) : Int) := e
  have e2 : (((y % 2 : Nat) : Int) % 4294967296) = ((y % 2 : Nat) : Int) := by omega
  have e3 := u32_or_nat 0 (y % 2) (by omega) (by omega)
  rw [Nat.zero_or] at e3
  rw [e', e2]
  exact e3
set_option maxRecDepth 100000 in
set_option maxHeartbeats 1000000 in
theorem ftake_any (w : World) (B g at_ : Nat) (v : Value) (bs : List Nat) (h : Rf w B g v bs at_) (hn : bs.length ≤ 1000) (ha : at_ < 8 * bs.length) :
    Calls Try.prog 41 #[.pointer (some ⟨g, 0, none⟩), .int .i64 1] w fun e w' => e = .returned (.tuple #[.int .u32 ((val bs / 2 ^ at_ % 2 : Nat) : Int), .bool true]) ∧ Rf w' B g v bs (at_ + 1) ∧ Keep (fun i => i = g) w w' := by
  have H := Aside0.mk h
  have hlt : ¬ ((8 * bs.length - at_ : Nat) : Int) < 1 := by omega
  have hdl : decide (((8 * bs.length - at_ : Nat) : Int) < 1) = false := by rw [decide_eq_false_iff_not]; exact hlt
  clear h
  obtain ⟨b, hb⟩ : ∃ b, val bs / 2 ^ at_ % 2 = b := ⟨_, rfl⟩
  have HB := Aside0.mk hb
  have hb2 : b < 2 := by rw [← hb]; exact Nat.mod_lt _ (by omega)
  rw [hb]
  clear hb
  go_enter Try.func41, Try.ntmps41
  go_wp2_with fail
  refine (fleft_any w B g at_ v bs H.out hn (by omega)).mono ?_
  rintro e w1 ⟨rfl, q, rfl⟩
  have hl1 : 1 ≤ 8 * bs.length - at_ := by omega
  generalize 8 * bs.length - at_ = L at *
  go_wp2_with fail
  go_loopw [21, 6] (fun i s wr => ∃ k : Nat, k ≤ 1 ∧ i = .int .i64 k ∧ s = .int .u32 ((if k = 0 then 0 else b : Nat) : Int) ∧ Aside0 (Rf wr B g v bs (at_ + k)) ∧ Aside0 (Keep (fun i => i = g) w wr)) (fun i _ _ => 1 - (intOf i).toNat)
  case atStart => exact ⟨0, by omega, rfl, rfl, ⟨⟨H.out.base, H.out.blk, H.out.row.drewN q⟩⟩, ⟨⟨rfl, rfl, rfl, Nat.le_refl _, fun _ _ _ => rfl⟩⟩⟩
  case round =>
    obtain ⟨k, hk, rfl, rfl, HR, HK⟩ := hrel
    by_cases hlt : k < 1
    · obtain rfl : k = 0 := by omega
      rw [if_pos rfl]
      obtain ⟨A, c, hv, hr⟩ := HR.out.row.reads
      obtain ⟨ad, hA, hc⟩ := hr.at_ (at_ / 8) (by omega)
      subst hA hv
      have hx8 := hr.lt (at_ / 8)
      have hc0 : wr.cell? ⟨g, 0, none⟩ = some (.slice (some ad) bs.length c) := blk_cell HR.out.blk 0
      have hc1 : wr.cell? ⟨g, 1, none⟩ = some (.int .i64 (at_ : Int)) := blk_cell HR.out.blk 1
      have hf1 : wr.frozen? ⟨g, 1, none⟩ = false := blk_frozen HR.out.blk 1
      have HV := Aside0.mk (val_at bs (at_ / 8) hr.1)
      clear hr
      generalize bs.getD (at_ / 8) 0 = x at *
      have e1 : at_ / 8 < bs.length := by omega
      go_wp2_with fail
      go_quiet (fail)
      rw [take_val x (at_ % 8) hx8, ← bit_low (val bs) at_ x HV.out]
      have HRd := Aside0.mk (show Rf (wr.drewN nq) B g _ bs at_ from ⟨HR.out.base, HR.out.blk, HR.out.row.drewN nq⟩)
      have HKd := Aside0.mk (show Keep (fun i => i = g) w (wr.drewN nq) from ⟨HK.out.os, HK.out.tape, HK.out.output, HK.out.size, HK.out.block⟩)
      clear hc0 hc1 hf1 hc HR HK
      generalize wr.drewN nq = W at *
      have hc1 : W.cell? ⟨g, 1, none⟩ = some (.int .i64 (at_ : Int)) := blk_cell HRd.out.blk 1
      have hf1 : W.frozen? ⟨g, 1, none⟩ = false := blk_frozen HRd.out.blk 1
      have hblk := blk_set HRd.out.blk 1 (.int .i64 ((at_ + 1 : Nat) : Int))
      simp only [List.setIfInBounds_toArray, List.set_cons_zero, List.set_cons_succ] at hblk
      have hrow := HRd.out.row.keep ((Keep.refl (fun i => i = g) W).setCell ⟨g, 1, none⟩ (fun _ => rfl) (.int .i64 ((at_ + 1 : Nat) : Int))) (fun q hq e => HRd.out.row.ne_blk HRd.out.blk (by decide) (by have e' : q = g := e; rw [← e']; exact hq.symm))
      have R1 := Aside0.mk (show Rf (W.setCell ⟨g, 1, none⟩ (.int .i64 ((at_ + 1 : Nat) : Int))) B g _ bs (at_ + 1) from ⟨HRd.out.base, hblk, hrow⟩)
      have R2 := Aside0.mk (HKd.out.setCell ⟨g, 1, none⟩ (fun _ => rfl) (.int .i64 ((at_ + 1 : Nat) : Int)))
      clear hblk hrow
      rw [HB.out]
      have ha2 : at_ ≤ 8000 := by omega
      have ea : IntKind.i64.wrap ((at_ : Int) + 1) = ((at_ + 1 : Nat) : Int) := by rw [IntWalk.i64_in ((at_ : Int) + 1) (by omega)]; omega
      go_wp2_with fail
      go_roundw
      case rel => exact ⟨1, by omega, by go_num, by rw [if_neg (by omega)], R1, R2⟩
      case measure => simp [intOf]
    · obtain rfl : k = 1 := by omega
      rw [if_neg (by omega)]
      go_wp2_with fail
      go_ret2
      exact ⟨rfl, HR.out, HK.out⟩
end Go.Proofs.Ytdgomddbppgkmaa.Dir
