/- Proved here: what the functions of package bitr do to memory: a reader is a block of two cells, a row of bytes, and how many bits are left. Conditions: each theorem's own. -/
import Derived.Test.YtohgkdiagekmbaaBitwLaws
import Derived.Laws.CopyOwn
namespace Go.Proofs.Ytohgkdiagekmbaa.Bitr
open Go.RowKit Go.Proofs.YtohgkdiagekmbaaW.PrintWords Go.Proofs.Ytohgkdiagekmbaa.CrcM Go.Proofs.Ytohgkdiagekmbaa.BitsM Go.Proofs.Ytohgkdiagekmbaa.Base Go.Proofs.Ytohgkdiagekmbaa.Bitw

/-- How many binary digits a number has. -/
def len8 (x : Nat) : Nat := if x = 0 then 0 else Nat.log2 x + 1
theorem tab_at (s : ByteArray) (hs : s.data.toList.map UInt8.toNat = (List.range 256).map len8) (x : Nat) (h : x < s.size) : (s[x]'h).toNat = len8 x := by
  have hl := congrArg List.length hs
  simp only [List.length_map, List.length_range, data_length] at hl
  have h1 : (s.data.toList.map UInt8.toNat)[x]? = some ((s[x]'h).toNat) := by
    rw [List.getElem?_map, List.getElem?_eq_getElem (by rw [data_length]; exact h)]
    rfl
  rw [hs, List.getElem?_map, List.getElem?_range (by omega)] at h1
  simpa using h1.symm
set_option maxRecDepth 100000 in
set_option maxHeartbeats 400000 in
theorem len8_any (w : World) (x : Nat) (h : x < 256) : Calls Try.prog 30 #[.int .u8 (x : Int)] w fun e w' => e = .returned (.int .i64 (len8 x : Int)) ∧ w = w' := by
  go_enter Try.func30, Try.ntmps30
  go_wp2
  go_ret
  refine ⟨ret_int (a := wrap64 _) ?_, rfl⟩
  rw [tab_at _ (by decide +kernel) x]
  have : len8 x < 10 := by
    unfold len8
    split
    · omega
    · have := (Nat.log2_lt (n := x) (k := 8) (by assumption)).2 h
      omega
  unfold wrap64
  omega

/-! plain: the mark -/
theorem top (bs : List Nat) (hb : ∀ b ∈ bs, b < 256) (hp : 0 < bs.length) (hl : bs.getD (bs.length - 1) 0 ≠ 0) :
    2 ^ (8 * (bs.length - 1) + len8 (bs.getD (bs.length - 1) 0) - 1) ≤ val bs ∧ val bs < 2 ^ (8 * (bs.length - 1) + len8 (bs.getD (bs.length - 1) 0)) ∧ 1 ≤ len8 (bs.getD (bs.length - 1) 0) ∧ len8 (bs.getD (bs.length - 1) 0) ≤ 8 := by
  have hv := val_lt bs hb
  have ha := val_at bs (bs.length - 1) hb
  have hd : val bs / 2 ^ (8 * (bs.length - 1)) < 256 := by
    rw [Nat.div_lt_iff_lt_mul (Nat.two_pow_pos _), show (256 : Nat) = 2 ^ 8 from rfl, ← Nat.pow_add, show 8 + 8 * (bs.length - 1) = 8 * bs.length by omega]
    exact hv
  rw [Nat.mod_eq_of_lt hd] at ha
  generalize bs.getD (bs.length - 1) 0 = x at *
  have hx : x < 256 := by omega
  have e1 : len8 x = Nat.log2 x + 1 := by unfold len8; rw [if_neg hl]
  have e2 : 2 ^ Nat.log2 x ≤ x := Nat.log2_self_le hl
  have e3 : x < 2 ^ (Nat.log2 x + 1) := Nat.lt_log2_self
  have e4 : Nat.log2 x < 8 := (Nat.log2_lt hl).2 hx
  rw [e1]
  refine ⟨?_, ?_, by omega, by omega⟩
  · rw [show 8 * (bs.length - 1) + (Nat.log2 x + 1) - 1 = Nat.log2 x + 8 * (bs.length - 1) by omega, Nat.pow_add]
    rw [ha] at e2
    have h5 := (Nat.le_div_iff_mul_le (Nat.two_pow_pos _)).1 e2
    rw [← ha] at h5
    exact h5
  · rw [show 8 * (bs.length - 1) + (Nat.log2 x + 1) = (Nat.log2 x + 1) + 8 * (bs.length - 1) by omega, Nat.pow_add]
    have h6 : val bs / 2 ^ (8 * (bs.length - 1)) < 2 ^ (Nat.log2 x + 1) := by rw [← ha]; exact e3
    exact (Nat.div_lt_iff_lt_mul (Nat.two_pow_pos _)).1 h6

structure Rd (w : World) (B g : Nat) (v : Value) (bs : List Nat) (left : Nat) : Prop where
  base : B ≤ g
  blk : w.heap[g]? = some (.cells #[v, .int .i64 (left : Int)] 59 (0, 0))
  row : OB w B 5 v bs
  llt : left < 8 * bs.length

set_option maxRecDepth 100000 in
set_option maxHeartbeats 400000 in
theorem new_empty (w : World) (A : Option Addr) (c : Nat) : Calls Try.prog 14 #[.slice A 0 c] w fun e w' => e = .returned (.tuple #[.pointer none, .int .i64 2]) ∧ w = w' := by
  go_enter Try.func14, Try.ntmps14
  go_wp2
  go_ret2
  exact ⟨rfl, rfl⟩
set_option maxRecDepth 100000 in
set_option maxHeartbeats 400000 in
theorem new_zero (w : World) (A : Option Addr) (c : Nat) (bs : List Nat) (hr : RB w A bs) (hn : bs.length ≤ 1000) (hp : 0 < bs.length) (hl : bs.getD (bs.length - 1) 0 = 0) :
    Calls Try.prog 14 #[.slice A bs.length c] w fun e w' => e = .returned (.tuple #[.pointer none, .int .i64 2]) ∧ w = w' := by
  obtain ⟨ad, rfl, hc⟩ := hr.at_ (bs.length - 1) (by omega)
  rw [hl] at hc
  clear hl hr
  obtain ⟨n, hN⟩ : ∃ n, bs.length = n + 1 := ⟨bs.length - 1, by omega⟩
  rw [hN] at hc hn ⊢
  clear hN hp
  have h0 : (((n + 1 : Nat) : Int) == 0) = false := by rw [beq_eq_false_iff_ne]; omega
  have hc' : w.cell? (ad.add n) = some (.int .u8 0) := hc
  clear hc
  go_enter Try.func14, Try.ntmps14
  go_wp2
  go_ret2
  exact ⟨rfl, rfl⟩
theorem made2 (w : World) (c1 c2 : Array Value) (e1 e2 : TypeId) : ∃ W3, W3 = ((w.alloc (.cells c1 e1)).alloc (.cells c2 e2)).drew ∧ W3.heap[w.heap.size]? = some (.cells c1 e1 (0, 0)) ∧ W3.heap[w.heap.size + 1]? = some (.cells c2 e2 (0, 0)) ∧ Below w.heap.size w W3 ∧ W3.heap.size = w.heap.size + 2 := by
  have h1 : (w.alloc (.cells c1 e1)).heap.size = w.heap.size + 1 := by simp
  refine ⟨_, rfl, ?_, ?_, ?_, ?_⟩
  · show ((w.alloc (.cells c1 e1)).alloc (.cells c2 e2)).heap[w.heap.size]? = _
    rw [Below.heap_alloc _ _ _ (by omega)]; exact heap_alloc_new w _
  · have := heap_alloc_new (w.alloc (.cells c1 e1)) (.cells c2 e2)
    rw [h1] at this; exact this
  · have hb := ((Below.refl w.heap.size w).alloc (Nat.le_refl _) (.cells c1 e1)).alloc (by omega) (.cells c2 e2)
    exact hb.drew
  · show ((w.alloc (.cells c1 e1)).alloc (.cells c2 e2)).heap.size = _
    simp
theorem _root_.Go.Proofs.Ytohgkdiagekmbaa.Base.RB.cells {w : World} {ad : Addr} {bs : List Nat} (HR : RB w (some ad) bs) : ∀ j v, (nb bs)[j]? = some v → w.cell? (ad.add j) = some v := by
  intro j u hu
  have hj : j < bs.length := by
    rcases Nat.lt_or_ge j bs.length with h | h
    · exact h
    · simp [nb, nums, List.getElem?_eq_none h] at hu
  obtain ⟨ad', h', hc⟩ := HR.at_ j hj
  injection h' with h'
  subst h'
  simp [nb, nums, List.getElem?_eq_getElem hj] at hu
  subst hu
  rw [hc]
  simp [List.getD_eq_getElem?_getD, List.getElem?_eq_getElem hj]
set_option maxRecDepth 100000 in
set_option maxHeartbeats 400000 in
theorem new_any (w : World) (A : Option Addr) (c : Nat) (bs : List Nat) (hr : RB w A bs) (hn : bs.length ≤ 1000) (hp : 0 < bs.length) (hl : bs.getD (bs.length - 1) 0 ≠ 0) :
    Calls Try.prog 14 #[.slice A bs.length c] w fun e w' => ∃ g v, e = .returned (.tuple #[.pointer (some ⟨g, 0, none⟩), .int .i64 0]) ∧ Rd w' w.heap.size g v bs (8 * (bs.length - 1) + len8 (bs.getD (bs.length - 1) 0) - 1) ∧ Below w.heap.size w w' := by
  obtain ⟨ad, rfl, hc⟩ := hr.at_ (bs.length - 1) (by omega)
  have HT := Aside0.mk (top bs hr.1 hp hl)
  have hx8 := hr.lt (bs.length - 1)
  have HR := Aside0.mk hr
  have hmk := print_make (P := Try.prog) 22 5 .u8 1 Try.underlying22 info_u8 (by decide) bs.length (by omega)
  clear hr
  obtain ⟨n, hN⟩ : ∃ n, bs.length = n + 1 := ⟨bs.length - 1, by omega⟩
  have HN := Aside0.mk hN
  rw [hN] at hc hx8 hl HT hmk ⊢
  rw [hN] at hn
  clear hN hp
  simp only [Nat.add_sub_cancel] at hc hx8 hl HT ⊢
  generalize bs.getD n 0 = x at *
  have h0 : (((n + 1 : Nat) : Int) == 0) = false := by rw [beq_eq_false_iff_ne]; omega
  have hx0 : ((x : Int) == 0) = false := by rw [beq_eq_false_iff_ne]; omega
  have hl8 := HT.out.2.2
  obtain ⟨hl1, hl2⟩ := hl8
  have ec : ((n + 1 : Nat) : Int) = (n : Int) + 1 := by omega
  rw [ec] at hmk
  clear ec
  have s1 : IntKind.i64.wrap (n : Int) = (n : Int) := IntWalk.i64_in _ (by omega)
  have s2 : IntKind.i64.wrap (8 * (n : Int)) = 8 * (n : Int) := IntWalk.i64_in _ (by omega)
  have s3 : IntKind.i64.wrap (8 * (n : Int) + (len8 x : Int)) = 8 * (n : Int) + (len8 x : Int) := IntWalk.i64_in _ (by omega)
  have s4 : IntKind.i64.wrap (8 * (n : Int) + (len8 x : Int) - 1) = 8 * (n : Int) + (len8 x : Int) - 1 := IntWalk.i64_in _ (by omega)
  have s5 : (0 : Int) ≤ n := by omega
  have s6 : (n : Int) < (n : Int) + 1 := by omega
  go_enter Try.func14, Try.ntmps14
  go_wp2_with fail
  go_region_held3 (fun w' => w'.cell? (ad.add n) = some (.int .u8 (x : Int))) (go_keep)
    (first | (go_at_call 30; refine (len8_any _ x hx8).mono ?_; rintro e w6 ⟨rfl, rfl⟩))
  all_goals
    have eL : 8 * (n : Int) + (len8 x : Int) - 1 = ((8 * n + len8 x - 1 : Nat) : Int) := by omega
    rw [eL]
    obtain ⟨W3, hW3, hgr, hsr, hbr, hsz⟩ := made2 w (madeCells #[.int .u8 0] (n + 1)) #[.slice (some ⟨w.heap.size, 0, none⟩) (n + 1) (n + 1), .int .i64 ((8 * n + len8 x - 1 : Nat) : Int)] 5 59
    rw [← hW3]
    have hcr : ∀ j v, (nb bs)[j]? = some v → W3.cell? (ad.add j) = some v := (HR.out.below hbr).cells
    have hq0 : W3.cell? ⟨w.heap.size + 1, 0, none⟩ = some (.slice (some ⟨w.heap.size, 0, none⟩) (n + 1) (n + 1)) := cell_of_row _ _ _ _ _ _ hsr
    clear hW3 hc
    go_wp2_with (refine wpList_copy_own rfl (.tmp 36) (.tmp 37) 22 22 rfl 5 Try.underlying22 (by kernel_rfl) w.heap.size 0 (n + 1) (n + 1) ad (n + 1) c rfl rfl _ _ hgr (nb bs) ?_ hcr ?_ ?_ ?_)
    · have hq := HN.out
      simp [nb, nums, hq]
    · have hq := HN.out
      simp [nb, nums, hq, size_madeCells]
    · intro u hu
      simp only [nb, nums, List.mem_map] at hu
      obtain ⟨q, _, rfl⟩ := hu
      rfl
    · have ecs : (nb bs ++ (madeCells #[.int .u8 0] (n + 1)).toList.drop (nb bs).length).toArray = (nb bs).toArray := by
        congr 1
        rw [List.drop_of_length_le (by simp [nb, nums, HN.out, size_madeCells]), List.append_nil]
      rw [ecs]
      have hrow := setRow_heap W3 w.heap.size _ (nb bs).toArray 5 (0, 0) hgr
      have hblk := (setRow_other W3 w.heap.size (w.heap.size + 1) (nb bs).toArray (by omega)).trans hsr
      have hbel := below_setRow hbr (Nat.le_refl _) (nb bs).toArray
      have HRd := Aside0.mk (show Rd (W3.setRow w.heap.size (nb bs).toArray) w.heap.size (w.heap.size + 1) (.slice (some ⟨w.heap.size, 0, none⟩) (n + 1) (n + 1)) bs (8 * n + len8 x - 1) from
        ⟨by omega, hblk, ⟨HR.out.1, by simp [nb, nums], .inr ⟨w.heap.size, n + 1, _, by rw [HN.out], Nat.le_refl _, hrow, by have := HN.out; omega, by simp only [maxLen]; omega, by simp [nb, nums, HN.out], by rw [Nat.mul_one]; exact List.take_of_length_le (by simp [nb, nums])⟩⟩, by have := HN.out; omega⟩)
      go_ret2
      exact ⟨_, _, rfl, HRd.out, hbel⟩

theorem bit_low (V i x : Nat) (h : x = V / 2 ^ (8 * (i / 8)) % 256) : V / 2 ^ i % 2 = x / 2 ^ (i % 8) % 2 := by
  have e : V / 2 ^ i = V / 2 ^ (8 * (i / 8)) / 2 ^ (i % 8) := by
    rw [Nat.div_div_eq_div_mul, ← Nat.pow_add]; congr 2; omega
  rw [e, h]
  generalize V / 2 ^ (8 * (i / 8)) = Y
  have hr : i % 8 = 0 ∨ i % 8 = 1 ∨ i % 8 = 2 ∨ i % 8 = 3 ∨ i % 8 = 4 ∨ i % 8 = 5 ∨ i % 8 = 6 ∨ i % 8 = 7 := by omega
  rcases hr with h | h | h | h | h | h | h | h <;> rw [h] <;> omega
theorem Rd.lt {w : World} {B g left : Nat} {v : Value} {bs : List Nat} (h : Rd w B g v bs left) : g < w.heap.size := blk_lt h.blk
set_option maxRecDepth 100000 in
set_option maxHeartbeats 400000 in
theorem bit_one (w : World) (B g left i : Nat) (v : Value) (bs : List Nat) (h : Rd w B g v bs left) (hi : i < 8 * bs.length) (hb : 8 * bs.length ≤ 100000) :
    Calls Try.prog 32 #[.pointer (some ⟨g, 0, none⟩), .int .i64 (i : Int)] w fun e w' => e = .returned (.int .u32 ((val bs / 2 ^ i % 2 : Nat) : Int)) ∧ w = w' := by
  obtain ⟨A, c, rfl, hr⟩ := h.row.reads
  obtain ⟨ad, rfl, hc⟩ := hr.at_ (i / 8) (by omega)
  have hx8 := hr.lt (i / 8)
  have hc0 : w.cell? ⟨g, 0, none⟩ = some (.slice (some ad) bs.length c) := blk_cell h.blk 0
  have HV := Aside0.mk (val_at bs (i / 8) hr.1)
  have HS := Aside0.mk h
  clear h hr
  generalize bs.getD (i / 8) 0 = x at *
  have e1 : i / 8 < bs.length := by omega
  have e2 : IntKind.i64.wrap ((i : Int) / 8) = ((i / 8 : Nat) : Int) := IntWalk.i64_in _ (by omega)
  have e3 : (0 : Int) ≤ (i : Int) / 8 := by omega
  have e4 : (i : Int) / 8 < bs.length := by omega
  have e5 : ((i : Int) / 8).toNat = i / 8 := by omega
  generalize bs.length = N at *
  generalize val bs = V at *
  go_enter Try.func32, Try.ntmps32
  go_wp2_with fail
  go_ret
  refine ⟨ret_int ?_, rfl⟩
  rw [div_pow_cast, bit_low V i x HV.out]
  have hq : x / 2 ^ (i % 8) < 256 := Nat.lt_of_le_of_lt (Nat.div_le_self _ _) hx8
  generalize x / 2 ^ (i % 8) = y at *
  have e := u32_and_nat y 1 (by omega) (by omega)
  rw [Nat.and_one_is_mod] at e
  have e' : ((y : Int) % 4294967296) = (y : Int) := by omega
  rw [e']
  exact e

/-! plain: a number of bits -/
theorem tak (V L k : Nat) (h : k < L) : 2 * (V / 2 ^ (L - k) % 2 ^ k) + V / 2 ^ (L - (k + 1)) % 2 = V / 2 ^ (L - (k + 1)) % 2 ^ (k + 1) := by
  have e : V / 2 ^ (L - k) = V / 2 ^ (L - (k + 1)) / 2 := by
    rw [Nat.div_div_eq_div_mul, ← Nat.pow_succ, Nat.succ_eq_add_one, show L - (k + 1) + 1 = L - k by omega]
  rw [e]
  generalize V / 2 ^ (L - (k + 1)) = Y
  rw [Nat.pow_succ, Nat.mul_comm (2 ^ k) 2, Nat.mod_mul]
  omega
set_option maxRecDepth 100000 in
set_option maxHeartbeats 400000 in
theorem take_any (w : World) (B g left n : Nat) (v : Value) (bs : List Nat) (h : Rd w B g v bs left) (hn : n ≤ left) (h24 : n ≤ 24) (hb : 8 * bs.length ≤ 100000) :
    Calls Try.prog 16 #[.pointer (some ⟨g, 0, none⟩), .int .i64 (n : Int)] w fun e w' => e = .returned (.tuple #[.int .u32 ((val bs / 2 ^ (left - n) % 2 ^ n : Nat) : Int), .bool true]) ∧ Rd w' B g v bs (left - n) ∧ Keep (fun i => i = g) w w' := by
  have hc1 : w.cell? ⟨g, 1, none⟩ = some (.int .i64 (left : Int)) := blk_cell h.blk 1
  have HS := Aside0.mk h
  have HL := Aside0.mk h.llt
  have hl : left ≤ 100000 := by have := h.llt; omega
  have hdl : decide (left < n) = false := by rw [decide_eq_false_iff_not]; omega
  clear h
  go_enter Try.func16, Try.ntmps16
  go_wp2_with fail
  go_loopw [22, 6] (fun i s wr => ∃ k : Nat, k ≤ n ∧ i = .int .i64 k ∧ s = .int .u32 ((val bs / 2 ^ (left - k) % 2 ^ k : Nat) : Int) ∧ Aside0 (Rd wr B g v bs (left - k)) ∧ Aside0 (Keep (fun i => i = g) w wr)) (fun i _ _ => n - (intOf i).toNat)
  case atStart => exact ⟨0, by omega, rfl, by simp [Nat.mod_one], HS, ⟨Keep.refl _ _⟩⟩
  case round =>
    obtain ⟨k, hk, rfl, rfl, HR, HK⟩ := hrel
    by_cases hlt : k < n
    · have hq1 : wr.cell? ⟨g, 1, none⟩ = some (.int .i64 ((left - k : Nat) : Int)) := blk_cell HR.out.blk 1
      have hf1 : wr.frozen? ⟨g, 1, none⟩ = false := blk_frozen HR.out.blk 1
      have HT := Aside0.mk (tak (val bs) left k (by omega))
      have hk2 : val bs / 2 ^ (left - k) % 2 ^ k < 2 ^ k := Nat.mod_lt _ (Nat.two_pow_pos _)
      have hk3 : 2 ^ k ≤ 2 ^ 23 := Nat.pow_le_pow_right (by omega) (by omega)
      have hk4 : val bs / 2 ^ (left - k) % 2 ^ k < 8388608 := Nat.lt_of_lt_of_le hk2 hk3
      clear hk2 hk3
      have hblk := blk_set HR.out.blk 1 (.int .i64 ((left - (k + 1) : Nat) : Int))
      simp only [List.setIfInBounds_toArray, List.set_cons_zero, List.set_cons_succ] at hblk
      have hrow := HR.out.row.keep ((Keep.refl (fun i => i = g) wr).setCell ⟨g, 1, none⟩ (fun _ => rfl) (.int .i64 ((left - (k + 1) : Nat) : Int))) (fun q hq e => HR.out.row.ne_blk HR.out.blk (by decide) (by have e' : q = g := e; rw [← e']; exact hq.symm))
      have R1 := Aside0.mk (show Rd (wr.setCell ⟨g, 1, none⟩ (.int .i64 ((left - (k + 1) : Nat) : Int))) B g v bs (left - (k + 1)) from ⟨HR.out.base, hblk, hrow, by have := HL.out; omega⟩)
      have R2 := Aside0.mk (HK.out.setCell ⟨g, 1, none⟩ (fun _ => rfl) (.int .i64 ((left - (k + 1) : Nat) : Int)))
      have ei : ((left - k : Nat) : Int) - 1 = ((left - (k + 1) : Nat) : Int) := by omega
      clear hblk hrow
      generalize hX : val bs / 2 ^ (left - k) % 2 ^ k = X at *
      go_wp2_with fail
      refine (bit_one _ B g (left - (k + 1)) (left - (k + 1)) v bs R1.out (by have := HL.out; omega) hb).mono ?_
      rintro e w1 ⟨rfl, rfl⟩
      have ex : (2 * (X : Int) + ((val bs / 2 ^ (left - (k + 1)) % 2 : Nat) : Int)) = ((val bs / 2 ^ (left - (k + 1)) % 2 ^ (k + 1) : Nat) : Int) := by
        rw [← HT.out]; omega
      have h2 : val bs / 2 ^ (left - (k + 1)) % 2 < 2 := Nat.mod_lt _ (by omega)
      clear HT
      generalize val bs / 2 ^ (left - (k + 1)) % 2 = b at *
      generalize hY : val bs / 2 ^ (left - (k + 1)) % 2 ^ (k + 1) = Y at *
      generalize wr.setCell ⟨g, 1, none⟩ (.int .i64 ((left - (k + 1) : Nat) : Int)) = W at *
      go_wp2_with fail
      go_roundw
      case rel => exact ⟨k + 1, by omega, by go_num, by rw [hY], R1, R2⟩
      case measure => simp [intOf]; omega
    · obtain rfl : k = n := by omega
      go_wp2_with fail
      go_ret2
      exact ⟨rfl, HR.out, HK.out⟩
set_option maxRecDepth 100000 in
set_option maxHeartbeats 400000 in
theorem take_no (w : World) (B g left : Nat) (n : Int) (v : Value) (bs : List Nat) (h : Rd w B g v bs left) (hn : n < 0 ∨ 24 < n ∨ (left : Int) < n) :
    Calls Try.prog 16 #[.pointer (some ⟨g, 0, none⟩), .int .i64 n] w fun e w' => e = .returned (.tuple #[.int .u32 0, .bool false]) ∧ w = w' := by
  have hc1 : w.cell? ⟨g, 1, none⟩ = some (.int .i64 (left : Int)) := blk_cell h.blk 1
  clear h
  by_cases h1 : n < 0
  · go_enter Try.func16, Try.ntmps16
    go_wp2_with fail
    go_ret2
    exact ⟨rfl, rfl⟩
  · by_cases h2 : 24 < n
    · go_enter Try.func16, Try.ntmps16
      go_wp2_with fail
      go_ret2
      exact ⟨rfl, rfl⟩
    · have h3 : (left : Int) < n := by omega
      clear hn
      go_enter Try.func16, Try.ntmps16
      go_wp2_with fail
      go_ret2
      exact ⟨rfl, rfl⟩
set_option maxRecDepth 100000 in
set_option maxHeartbeats 400000 in
theorem left_any (w : World) (B g left : Nat) (v : Value) (bs : List Nat) (h : Rd w B g v bs left) :
    Calls Try.prog 18 #[.pointer (some ⟨g, 0, none⟩)] w fun e w' => e = .returned (.int .i64 (left : Int)) ∧ w = w' := by
  have hc1 : w.cell? ⟨g, 1, none⟩ = some (.int .i64 (left : Int)) := blk_cell h.blk 1
  clear h
  go_enter Try.func18, Try.ntmps18
  go_wp2_with fail
  go_ret
  exact ⟨rfl, rfl⟩
/-- A reader lives on where the blocks of its own stay. -/
theorem Rd.keep {S : Nat → Prop} {w w1 : World} {B g left : Nat} {v : Value} {bs : List Nat} (h : Rd w B g v bs left) (hk : Keep S w w1) (hg : ¬ S g) (hv : ∀ k, v.ownBlock = some k → ¬ S k) : Rd w1 B g v bs left :=
  ⟨h.base, (hk.block g h.lt hg).trans h.blk, h.row.keep hk hv, h.llt⟩
theorem Rd.below {w w1 : World} {B g left : Nat} {v : Value} {bs : List Nat} (h : Rd w B g v bs left) (hb : Below w.heap.size w w1) : Rd w1 B g v bs left :=
  ⟨h.base, (hb.block g h.lt).trans h.blk, h.row.below hb, h.llt⟩
theorem Rd.base_row {w : World} {B g left : Nat} {v : Value} {bs : List Nat} (h : Rd w B g v bs left) : ∀ k, v.ownBlock = some k → B ≤ k := fun k hk => h.row.base k hk
end Go.Proofs.Ytohgkdiagekmbaa.Bitr
