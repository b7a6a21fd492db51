/- Proved here: what the functions of package crc and of its reference do to memory, said of cells. Conditions: each theorem's own. -/
import Derived.Test.YtegkpopkecemnaaProg
import Derived.Test.YtegkpopkecemnaaWWords
import Derived.Test.YtegkpopkecemnaaBase
import Derived.Test.YtegkpopkecemnaaCrcMath
import Derived.Laws.BitsAllLaws
import Derived.Lib.SlBytesConst
namespace Go.Proofs.Ytegkpopkecemnaa.Crc
open Go.RowKit Go.Proofs.YtegkpopkecemnaaW.PrintWords Go.Proofs.Ytegkpopkecemnaa.CrcM Go.Proofs.Ytegkpopkecemnaa.Base

def tabF (k i : Nat) : Nat := if i < k then stn 8 i else 0
def tabK (k : Nat) : Array Value := ((List.range 256).map fun i => Value.int .u32 (tabF k i : Int)).toArray
theorem tabK_at (k i : Nat) (h : i < 256) : (tabK k)[i]? = some (.int .u32 (tabF k i : Int)) := by
  simp [tabK, h]
theorem tabK_set (k : Nat) (h : k < 256) : (tabK k).setIfInBounds k (.int .u32 (stn 8 k : Nat)) = tabK (k + 1) := by
  apply Array.ext_getElem?
  intro i
  rw [Array.getElem?_setIfInBounds]
  have hs : (tabK k).size = 256 := by simp [tabK]
  by_cases e : k = i
  · subst e
    rw [if_pos rfl, if_pos (by omega), tabK_at _ _ h]
    simp [tabF]
  · rw [if_neg e]
    by_cases hi : i < 256
    · rw [tabK_at _ _ hi, tabK_at _ _ hi]
      have : tabF k i = tabF (k + 1) i := by unfold tabF; by_cases h1 : i < k <;> by_cases h2 : i < k + 1 <;> simp [h1, h2] <;> omega
      rw [this]
    · rw [Array.getElem?_eq_none (by omega), Array.getElem?_eq_none (by simp [tabK]; omega)]
theorem info_u8 : (Try.prog.info? 5).map (fun i => (i.zero, i.size, i.bytes)) = some (some (.int .u8 0), 1, 1) := by kernel_rfl
theorem zero_tab : ∀ w, (zeroValue 37).run Try.prog w = .ok (.agg (tabK 0)) w := fun _ => by kernel_rfl

/-! what the walk's numbers are -/
theorem and_one (x : Nat) (h : x < 4294967296) : bits .and .u32 (x : Int) 1 = ((x % 2 : Nat) : Int) := by
  have e := u32_and_nat x 1 h (by omega)
  rw [Nat.and_one_is_mod] at e
  exact e
theorem st_walk (x : Nat) (h : x < 4294967296) : bits .xor .u32 ((x : Int) / 2) (3988292384 * bits .and .u32 (x : Int) 1 % 4294967296) = ((st x : Nat) : Int) := by
  rw [and_one x h, show ((x : Int) / 2) = ((x / 2 : Nat) : Int) by omega, show (3988292384 * ((x % 2 : Nat) : Int) % 4294967296) = ((x % 2 * 3988292384 : Nat) : Int) by omega]
  exact u32_xor_nat _ _ (by omega) (by omega)
theorem max_u32 : IntKind.u32.max = ((4294967295 : Nat) : Int) := by decide
theorem not_walk (x : Nat) (h : x < 4294967296) : bits .xor .u32 IntKind.u32.max (x : Int) = ((4294967295 - x : Nat) : Int) := by
  rw [max_u32, u32_xor_nat _ _ (by omega) h, Nat.xor_comm, ← not_xor h]
theorem stn_succ (m x : Nat) : stn (m + 1) x = st (stn m x) := stn_add m 1 x

set_option maxRecDepth 100000 in
set_option maxHeartbeats 400000 in
theorem new_any (w : World) : Calls Try.prog 10 #[] w fun e w' => e = .returned (.pointer (some ⟨w.heap.size, 0, none⟩)) ∧ Below w.heap.size w w' ∧ w'.heap[w.heap.size]? = some (.cells (tabK 256) 37 (0, 0)) := by
  have hz := zero_tab
  go_enter Try.func10, Try.ntmps10
  go_wp2
  go_loopw [6] (fun i wr => ∃ k : Nat, k ≤ 256 ∧ i = .int .i64 k ∧ wr.heap[w.heap.size]? = some (.cells (tabK k) 37 (0, 0)) ∧ Below w.heap.size w wr) (fun i _ => 256 - (intOf i).toNat)
  case atStart => exact ⟨0, by omega, rfl, heap_alloc_new w _, below_alloc (Below.refl _ _) _⟩
  case round =>
    obtain ⟨k, hk, rfl, hb, hw⟩ := hrel
    have hc : wr.cell? ⟨w.heap.size, k, none⟩ = (tabK k)[k]? := blk_cell hb k
    have hf : wr.frozen? ⟨w.heap.size, k, none⟩ = false := blk_frozen hb k
    by_cases hlt : k < 256
    · rw [tabK_at k k hlt] at hc
      have HB := Aside0.mk hb
      clear hb
      go_wp2
      go_loop [3, 11] (fun x j => ∃ m : Nat, m ≤ 8 ∧ j = .int .i64 m ∧ x = .int .u32 (stn m k : Nat)) (fun _ j => 8 - (intOf j).toNat)
      case atStart => exact ⟨0, by omega, rfl, rfl⟩
      case round =>
        obtain ⟨m, hm, rfl, rfl⟩ := hrel
        have hx : stn m k < 4294967296 := stn_lt m (by omega)
        by_cases hmt : m < 8
        · go_wp2
          go_round
          case rel => exact ⟨m + 1, by omega, by go_num, by rw [st_walk _ hx, stn_succ]⟩
          case measure => simp [intOf]; omega
        · obtain rfl : m = 8 := by omega
          go_wp2
          go_roundw
          case rel =>
            refine ⟨k + 1, by omega, by go_num, ?_, hw.setCell (by simp) _⟩
            rw [← tabK_set k hlt]
            exact blk_set HB.out k _
          case measure => simp [intOf]; omega
    · obtain rfl : k = 256 := by omega
      go_wp2
      go_ret
      exact ⟨rfl, hw, hb⟩

def Tab (w : World) (g : Nat) : Prop := w.heap[g]? = some (.cells (tabK 256) 37 (0, 0))
theorem Tab.at_ {w : World} {g : Nat} (h : Tab w g) (i : Nat) (hi : i < 256) : w.cell? ⟨g, i, none⟩ = some (.int .u32 ((stn 8 i : Nat) : Int)) := by
  rw [blk_cell h i, tabK_at _ _ hi, tabF, if_pos hi]
theorem Tab.drewN {w : World} {g : Nat} (h : Tab w g) (n : Nat) : Tab (w.drewN n) g := h
theorem Tab.below {w w1 : World} {g : Nat} (h : Tab w g) (hb : Below w.heap.size w w1) : Tab w1 g := (hb.block g (blk_lt h)).trans h
theorem take_run (x : Nat) (bs : List Nat) (k : Nat) (hk : k < bs.length) : run x (bs.take (k + 1)) = upd (run x (bs.take k)) (bs.getD k 0) := by
  rw [List.take_succ_eq_append_getElem hk, run_append, List.getD_eq_getElem?_getD, List.getElem?_eq_getElem hk]
  rfl
theorem take_lt {bs : List Nat} (h : ∀ b ∈ bs, b < 256) (k : Nat) : ∀ b ∈ bs.take k, b < 256 := fun b hb => h b (List.mem_of_mem_take hb)

set_option maxRecDepth 100000 in
set_option maxHeartbeats 400000 in
theorem add_any (g sum c : Nat) (A : Option Addr) (bs : List Nat) (w : World) (hg : Tab w g) (hs : sum < 4294967296) (hr : RB w A bs) (hn : bs.length ≤ 1000000) :
    Calls Try.prog 13 #[.pointer (some ⟨g, 0, none⟩), .int .u32 (sum : Int), .slice A bs.length c] w fun e w' => e = .returned (.int .u32 (CrcM.add sum bs : Nat)) ∧ w = w' := by
  have HG := Aside0.mk hg
  have HR := Aside0.mk hr
  clear hg hr
  go_enter Try.func13, Try.ntmps13
  go_wp2
  go_loop [7, 14] (fun x i => ∃ k : Nat, k ≤ bs.length ∧ i = .int .i64 k ∧ x = .int .u32 (run (4294967295 - sum) (bs.take k) : Nat)) (fun _ i => bs.length - (intOf i).toNat)
  case atStart => exact ⟨0, by omega, rfl, by rw [not_walk sum hs]; rfl⟩
  case round =>
    obtain ⟨k, hk, rfl, rfl⟩ := hrel
    have hX : run (4294967295 - sum) (bs.take k) < 4294967296 := run_lt _ (by omega) (take_lt HR.out.1 k)
    by_cases hlt : k < bs.length
    · obtain ⟨ad, rfl, hcell⟩ := HR.out.at_ k hlt
      have hc := HR.out.lt k
      have hstep := Aside0.mk (take_run (4294967295 - sum) bs k hlt)
      generalize run (4294967295 - sum) (bs.take k) = X at *
      generalize bs.getD k 0 = ch at *
      have hupd := Aside0.mk (show upd X ch = (X / 256) ^^^ stn 8 ((X % 256) ^^^ ch) from rfl)
      have hi : (X % 256) ^^^ ch < 256 := Nat.xor_lt_two_pow (n := 8) (by omega) hc
      have hx8 : bits .xor .u8 ((X : Int) % 256) (ch : Int) = (((X % 256) ^^^ ch : Nat) : Int) := u8_xor_nat (X % 256) ch (by omega) hc
      have htab := HG.out.at_ _ hi
      generalize (X % 256) ^^^ ch = ix at *
      go_wp2
      go_round
      case rel =>
        refine ⟨k + 1, by omega, by go_num, ?_⟩
        rw [hstep.out, hupd.out, show ((X : Int) / 256) = ((X / 256 : Nat) : Int) by omega, u32_xor_nat _ _ (by omega) (stn_lt 8 (by omega))]
      case measure => simp [intOf]; omega
    · obtain rfl : k = bs.length := by omega
      go_wp2
      go_ret
      exact ⟨ret_int (by rw [List.take_length] at hX; rw [not_walk _ hX]; rfl), rfl⟩

set_option maxRecDepth 100000 in
set_option maxHeartbeats 400000 in
theorem of_any (g c : Nat) (A : Option Addr) (bs : List Nat) (w : World) (hg : Tab w g) (hr : RB w A bs) (hn : bs.length ≤ 1000000) :
    Calls Try.prog 11 #[.pointer (some ⟨g, 0, none⟩), .slice A bs.length c] w fun e w' => e = .returned (.int .u32 (CrcM.add 0 bs : Nat)) ∧ w = w' := by
  have HG := Aside0.mk hg
  have HR := Aside0.mk hr
  clear hg hr
  go_enter Try.func11, Try.ntmps11
  go_wp2_with (go_at_call 13; refine (add_any g 0 c A bs _ HG.out (by omega) HR.out hn).mono ?_; rintro e w' ⟨rfl, rfl⟩)
  go_ret
  exact ⟨rfl, rfl⟩

/-! the document's way -/
theorem ref_bit (c k : Nat) : ((c : Int) / 2 ^ k).tmod 2 = ((c / 2 ^ k % 2 : Nat) : Int) := by
  have e : ((c : Int) / 2 ^ k) = ((c / 2 ^ k : Nat) : Int) := by simp
  rw [e, Int.tmod_eq_emod_of_nonneg (Int.natCast_nonneg _)]
  generalize c / 2 ^ k = x
  omega
theorem ref_hit (Y c k : Nat) (hY : Y < 4294967296) (h : ((Y : Int) % 2 != ((c : Int) / 2 ^ k).tmod 2) = true) : bits .xor .u32 ((Y : Int) / 2) 3988292384 = ((sb Y (c / 2 ^ k % 2) : Nat) : Int) := by
  rw [ref_bit, bne_iff_ne] at h
  unfold sb
  rw [if_neg (by omega), show ((Y : Int) / 2) = ((Y / 2 : Nat) : Int) by omega]
  exact u32_xor_nat _ 3988292384 (by omega) (by omega)
theorem ref_miss (Y c k : Nat) (h : ((Y : Int) % 2 != ((c : Int) / 2 ^ k).tmod 2) = false) : ((Y : Int) / 2) = ((sb Y (c / 2 ^ k % 2) : Nat) : Int) := by
  rw [ref_bit, bne_eq_false_iff_eq] at h
  unfold sb
  rw [if_pos (by omega)]
  omega
set_option maxRecDepth 100000 in
set_option maxHeartbeats 400000 in
theorem refadd_any (sum c : Nat) (A : Option Addr) (bs : List Nat) (w : World) (hs : sum < 4294967296) (hr : RB w A bs) (hn : bs.length ≤ 1000000) :
    Calls Try.prog 14 #[.int .u32 (sum : Int), .slice A bs.length c] w fun e w' => e = .returned (.int .u32 (CrcM.add sum bs : Nat)) ∧ w = w' := by
  have HR := Aside0.mk hr
  clear hr
  go_enter Try.func14, Try.ntmps14
  go_wp2
  go_loop [5, 6] (fun x i => ∃ k : Nat, k ≤ bs.length ∧ i = .int .i64 k ∧ x = .int .u32 (run (4294967295 - sum) (bs.take k) : Nat)) (fun _ i => bs.length - (intOf i).toNat)
  case atStart => exact ⟨0, by omega, rfl, by rw [show (4294967295 - (sum : Int)) = ((4294967295 - sum : Nat) : Int) by omega]; rfl⟩
  case round =>
    obtain ⟨k, hk, rfl, rfl⟩ := hrel
    have hX : run (4294967295 - sum) (bs.take k) < 4294967296 := run_lt _ (by omega) (take_lt HR.out.1 k)
    by_cases hlt : k < bs.length
    · obtain ⟨ad, rfl, hcell⟩ := HR.out.at_ k hlt
      have hc := HR.out.lt k
      have hstep := Aside0.mk (take_run (4294967295 - sum) bs k hlt)
      generalize run (4294967295 - sum) (bs.take k) = X at *
      generalize bs.getD k 0 = ch at *
      go_wp2
      go_loop [5, 7] (fun x j => ∃ m : Nat, m ≤ 8 ∧ j = .int .i64 m ∧ x = .int .u32 (sbn m X ch : Nat)) (fun _ j => 8 - (intOf j).toNat)
      case atStart => exact ⟨0, by omega, rfl, rfl⟩
      case round =>
        obtain ⟨m, hm, rfl, rfl⟩ := hrel
        have hY : sbn m X ch < 4294967296 := sbn_lt m hX
        by_cases hmt : m < 8
        · have hsb := Aside0.mk (show sbn (m + 1) X ch = sb (sbn m X ch) (ch / 2 ^ m % 2) from rfl)
          generalize sbn m X ch = Y at *
          go_wp2
          · have ht : ((Y : Int) % 2 != ((ch : Int) / 2 ^ m).tmod 2) = true := by assumption
            go_round
            case rel => exact ⟨m + 1, by omega, by go_num, by rw [hsb.out, ref_hit Y ch m hY ht]⟩
            case measure => simp [intOf]; omega
          · have ht : ((Y : Int) % 2 != ((ch : Int) / 2 ^ m).tmod 2) = false := by assumption
            go_round
            case rel => exact ⟨m + 1, by omega, by go_num, by rw [hsb.out, ref_miss Y ch m ht]⟩
            case measure => simp [intOf]; omega
        · obtain rfl : m = 8 := by omega
          go_wp2
          go_round
          case rel => exact ⟨k + 1, by omega, by go_num, by rw [hstep.out, sbn_upd _ _ hc]⟩
          case measure => simp [intOf]; omega
    · obtain rfl : k = bs.length := by omega
      go_wp2
      go_ret
      refine ⟨ret_int ?_, rfl⟩
      rw [List.take_length] at hX
      unfold CrcM.add
      omega

set_option maxRecDepth 100000 in
set_option maxHeartbeats 400000 in
theorem refof_any (c : Nat) (A : Option Addr) (bs : List Nat) (w : World) (hr : RB w A bs) (hn : bs.length ≤ 1000000) :
    Calls Try.prog 12 #[.slice A bs.length c] w fun e w' => e = .returned (.int .u32 (CrcM.add 0 bs : Nat)) ∧ w = w' := by
  have HR := Aside0.mk hr
  clear hr
  go_enter Try.func12, Try.ntmps12
  go_wp2_with (go_at_call 14; refine (refadd_any 0 c A bs _ (by omega) HR.out hn).mono ?_; rintro e w' ⟨rfl, rfl⟩)
  go_ret
  exact ⟨rfl, rfl⟩

theorem nine_world (w : World) : RB (w.alloc (.cells #[.int .u8 49, .int .u8 50, .int .u8 51, .int .u8 52, .int .u8 53, .int .u8 54, .int .u8 55, .int .u8 56, .int .u8 57] 5 (9, 10))) (some ⟨w.heap.size, 0, none⟩) [49, 50, 51, 52, 53, 54, 55, 56, 57] :=
  RB.of_alloc w 5 (9, 10) [49, 50, 51, 52, 53, 54, 55, 56, 57] (by decide) (by simp)
theorem of_nil (g : Nat) (w : World) (hg : Tab w g) : Calls Try.prog 11 #[.pointer (some ⟨g, 0, none⟩), .slice none 0 0] w fun e w' => e = .returned (.int .u32 0) ∧ w = w' :=
  (of_any g 0 none [] w hg (RB.nil w) (by simp)).mono fun _ _ h => h
theorem of_nine (g c : Nat) (A : Option Addr) (w : World) (hg : Tab w g) (hr : RB w A [49, 50, 51, 52, 53, 54, 55, 56, 57]) : Calls Try.prog 11 #[.pointer (some ⟨g, 0, none⟩), .slice A 9 c] w fun e w' => e = .returned (.int .u32 3421780262) ∧ w = w' := by
  refine (of_any g c A _ w hg hr (by simp)).mono ?_
  rintro e w' ⟨rfl, hw⟩
  exact ⟨by rw [nine]; rfl, hw⟩
set_option maxRecDepth 100000 in
set_option maxHeartbeats 400000 in
theorem awake_any (w : World) : Calls Try.prog 9 #[] w fun e w' => e = .returned (.bool true) ∧ Below w.heap.size w w' := by
  have kc := fun (w : World) (C : Array Value) (n c : Nat) => Lib.run_convert_bytes_const (P := Try.prog) w 22 5 C n c Try.underlying22 Try.underlying5
  go_enter Try.func9, Try.ntmps9
  go_wp2_with (go_at_call 10; refine (new_any _).mono ?_; rintro e w1 ⟨rfl, hb1, ht1⟩)
  refine (of_nil _ _ ht1).mono ?_
  rintro e w2 ⟨rfl, rfl⟩
  have HT := Aside0.mk (show Tab w1 w.heap.size from ht1)
  clear ht1
  go_wp2_with fail
  refine (of_nine _ _ _ _ (HT.out.below (below_alloc (Below.refl _ _) _)) (nine_world _)).mono ?_
  rintro e w2 ⟨rfl, rfl⟩
  go_wp2_with fail
  go_ret
  exact ⟨rfl, hb1.alloc hb1.size _⟩
end Go.Proofs.Ytegkpopkecemnaa.Crc
