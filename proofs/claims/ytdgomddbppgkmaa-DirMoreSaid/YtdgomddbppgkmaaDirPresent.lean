/- Proved here: what ctx.Present computes: the contexts that bytes have, rising. Conditions: each theorem's own. -/
import Derived.Test.YtdgomddbppgkmaaDirArr
namespace Go.Proofs.Ytdgomddbppgkmaa.Dir
open Go.RowKit Go.Proofs.YtdgomddbppgkmaaW.PrintWords Go.Proofs.Ytdgomddbppgkmaa.CrcM Go.Proofs.Ytdgomddbppgkmaa.BitsM Go.Proofs.Ytdgomddbppgkmaa.Base Go.Proofs.Ytdgomddbppgkmaa.Bitw Go.Proofs.Ytdgomddbppgkmaa.DirM

/-- The contexts that bytes have. -/
def present (bs : List Nat) : List Nat := pl (mt bs bs.length) 256
set_option maxRecDepth 100000 in
set_option maxHeartbeats 1000000 in
theorem present_any (w : World) (A : Option Addr) (c : Nat) (bs : List Nat) (hr : RB w A bs) (hn : bs.length ≤ 1000) :
    Calls Try.prog 26 #[.slice A bs.length c] w fun e w' => ∃ v, e = .returned v ∧ NI w' w.heap.size v (present bs) ∧ Below w.heap.size w w' := by
  obtain ⟨L, hL⟩ : ∃ L, present bs = L := ⟨_, rfl⟩
  rw [hL]
  have HL := Aside0.mk hL
  clear hL
  have HR := Aside0.mk hr
  have hz := zero_arr
  obtain ⟨FZ, hFZ⟩ : ∃ FZ, madeCells #[.bool false] 256 = FZ := ⟨_, rfl⟩
  rw [hFZ] at hz
  have HFZ := Aside0.mk hFZ
  clear hr hFZ
  have hctx : ∀ k, ctxAt bs k < 256 := fun k => by
    unfold ctxAt
    split
    · omega
    · exact HR.out.lt (k - 1)
  have HC := Aside0.mk hctx
  clear hctx
  go_enter Try.func26, Try.ntmps26
  go_wp2_with fail
  have e0 := heap_alloc_new w (.cells FZ 54)
  have hb0 := below_alloc (Below.refl w.heap.size w) (.cells FZ 54)
  have hz0 : FZ.toList = (List.range 256).map fun j => Value.bool (mt bs 0 j) := by
    rw [← HFZ.out, toList_madeCells_one, show (List.range 256).map (fun j => Value.bool (mt bs 0 j)) = (List.range 256).map (fun _ => Value.bool false) from rfl, List.map_const', List.length_range]
  have H0 := Aside0.mk (And.intro e0 (And.intro hz0 hb0))
  clear e0 hb0 hz0 hz HFZ
  generalize w.alloc (.cells FZ 54) = w1 at *
  go_loopw [10] (fun i wr => ∃ (k : Nat) (cs : Array Value), k ≤ bs.length ∧ i = .int .i64 k ∧ Aside0 (wr.heap[w.heap.size]? = some (.cells cs 54 (0, 0)) ∧ cs.toList = (List.range 256).map (fun j => Value.bool (mt bs k j)) ∧ Below w.heap.size w wr)) (fun i _ => bs.length - (intOf i).toNat)
  case atStart => exact ⟨0, FZ, by omega, rfl, H0⟩
  case round =>
    obtain ⟨k, cs, hk, rfl, HK⟩ := hrel
    by_cases hlt : k < bs.length
    · have hat := at_any wr A c bs k (HR.out.below HK.out.2.2) hlt hn
      have hx := HC.out k
      have hcx : wr.cell? ⟨w.heap.size, ctxAt bs k, none⟩ = some (.bool (mt bs k (ctxAt bs k))) := by
        rw [blk_cell HK.out.1, ← Array.getElem?_toList, HK.out.2.1]
        simp [hx]
      have hfx : wr.frozen? ⟨w.heap.size, ctxAt bs k, none⟩ = false := blk_frozen HK.out.1 _
      have HAT := Aside0.mk hat
      have hst : (cs.setIfInBounds (ctxAt bs k) (.bool true)).toList = (List.range 256).map (fun j => Value.bool (mt bs (k + 1) j)) := by
        rw [Array.toList_setIfInBounds, HK.out.2.1]
        apply List.ext_getElem
        · simp
        · intro i h1 h2
          simp only [List.getElem_set, List.getElem_map, List.getElem_range]
          by_cases e : ctxAt bs k = i
          · rw [if_pos e]; simp [mt, List.range_succ, e]
          · rw [if_neg e]; simp [mt, List.range_succ, e]
      have HS := Aside0.mk hst
      clear hat hst
      generalize ctxAt bs k = x at *
      go_wp2_with fail
      refine HAT.out.mono ?_
      rintro e w2 ⟨rfl, rfl⟩
      go_wp2_with fail
      go_roundw
      case rel => exact ⟨k + 1, _, by omega, by go_num, ⟨blk_set HK.out.1 x _, HS.out, HK.out.2.2.setCell (p := ⟨w.heap.size, x, none⟩) (Nat.le_refl _) _⟩⟩
      case measure => simp [intOf]; omega
    · obtain rfl : k = bs.length := by omega
      have hsz : (Try.prog.info? 54).map (·.size) = some cs.size := by
        obtain ⟨i0, hi, _, hs, _⟩ := info_parts info_arr
        have hl : cs.size = 256 := by rw [← Array.length_toList, HK.out.2.1]; simp
        rw [hi, hl]; simpa using hs
      have HSZ := Aside0.mk hsz
      clear hsz
      go_wp2_with (refine wpList_load_row rfl 54 (.tmp 3) rfl w.heap.size rfl _ cs _ _ HK.out.1 Try.underlying54 rfl HSZ.out ?_)
      have HCS := Aside0.mk HK.out.2.1
      have HBL := Aside0.mk HK.out.2.2
      clear HK HSZ
      generalize wr = w2 at *
      go_loopw [19, 5] (fun i v wr => ∃ k : Nat, k ≤ 256 ∧ i = .int .i64 k ∧ Aside0 (NI wr w.heap.size v (pl (mt bs bs.length) k) ∧ Below w.heap.size w wr)) (fun i _ _ => 256 - (intOf i).toNat)
      case atStart => exact ⟨0, by omega, rfl, ⟨nil_row _ _, HBL.out⟩⟩
      case round =>
        obtain ⟨k, hk, rfl, HK⟩ := hrel
        by_cases hlt : k < 256
        · have he : cs[k]? = some (.bool (mt bs bs.length k)) := by
            rw [← Array.getElem?_toList, HCS.out]; simp [hlt]
          have hix := index_arr cs k (mt bs bs.length k) hlt he
          have hs := pl_succ (mt bs bs.length) k
          have hsz := HK.out.2.size
          have hlen : (pl (mt bs bs.length) k).length ≤ k := by
            have := List.length_filter_le (mt bs bs.length) (List.range k)
            rw [List.length_range] at this
            exact this
          clear he
          by_cases hm : mt bs bs.length k = true
          · rw [hm] at hix
            rw [if_pos hm] at hs
            have HS := Aside0.mk hs
            clear hs hm
            go_wp2_with (at_builtin; refine ni_append (w0 := w) w.heap.size rfl (.tmp 24) (.tmp 26) 33 rfl Try.underlying33 info_int _ (pl (mt bs bs.length) k) k rfl rfl HK.out.1 HK.out.2 hsz (by omega) ?_; intro v1 w3 hown1 hbel1 hgr1; have HO1 := Aside0.mk (And.intro hown1 hbel1); clear hown1 hbel1 hgr1)
            go_roundw
            case rel => exact ⟨k + 1, by omega, by go_num, ⟨by rw [HS.out]; exact HO1.out.1, HO1.out.2⟩⟩
            case measure => simp [intOf]; omega
          · have hmf : mt bs bs.length k = false := by simpa using hm
            rw [hmf] at hix
            rw [if_neg hm, List.append_nil] at hs
            have HS := Aside0.mk hs
            clear hs hm hmf
            go_wp2_with fail
            go_roundw
            case rel => exact ⟨k + 1, by omega, by go_num, ⟨by rw [HS.out]; exact HK.out.1, HK.out.2⟩⟩
            case measure => simp [intOf]; omega
        · obtain rfl : k = 256 := by omega
          obtain rfl : L = pl (mt bs bs.length) 256 := HL.out.symm
          go_wp2_with fail
          go_ret
          exact ⟨_, rfl, HK.out.1, HK.out.2⟩
end Go.Proofs.Ytdgomddbppgkmaa.Dir
