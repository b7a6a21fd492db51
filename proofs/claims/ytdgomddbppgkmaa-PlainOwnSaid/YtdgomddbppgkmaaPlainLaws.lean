/- Proved here: what the laws of package plain have in common: the reference's decoding and comparison, the example of the chapter. Conditions: each theorem's own. -/
import Derived.Test.YtdgomddbppgkmaaPlainWalks
import Derived.Laws.BytesArg
namespace Go.Proofs.Ytdgomddbppgkmaa.Plain
open Go.RowKit Go.Proofs.YtdgomddbppgkmaaW.PrintWords Go.Proofs.Ytdgomddbppgkmaa.CrcM Go.Proofs.Ytdgomddbppgkmaa.BitsM Go.Proofs.Ytdgomddbppgkmaa.Base Go.Proofs.Ytdgomddbppgkmaa.Bitw

set_option maxRecDepth 100000 in
set_option maxHeartbeats 400000 in
theorem same_any (w : World) (A B : Option Addr) (c d : Nat) (xs ys : List Nat) (hx : RB w A xs) (hy : RB w B ys) :
    Calls Try.prog 15 #[.slice A xs.length c, .slice B ys.length d] w fun e w' => e = .returned (.bool (xs == ys)) ∧ w = w' := by
  have hcx := RB.str (c := c) Try.underlying22 Try.underlying5 Try.underlying9 hx
  have hcy := RB.str (c := d) Try.underlying22 Try.underlying5 Try.underlying9 hy
  have HE := Aside0.mk (str_eq xs ys hx.1 hy.1)
  clear hx hy
  go_enter Try.func15, Try.ntmps15
  go_wp2
  go_ret
  exact ⟨ret_bool HE.out, rfl⟩

theorem rep_all (cs : List Nat) (x m : Nat) (hl : cs.length = m) (h : ∀ q, q < m → cs.getD q 0 = x) : cs = List.replicate m x := by
  rw [List.eq_replicate_iff]
  refine ⟨hl, fun b hb => ?_⟩
  obtain ⟨j, hj, rfl⟩ := List.mem_iff_getElem.1 hb
  have := h j (by omega)
  rw [List.getD_eq_getElem?_getD, List.getElem?_eq_getElem hj] at this
  exact this
theorem rb3 (w : World) : RB (w.alloc (.cells #[.int .u8 5, .int .u8 5, .int .u8 5] 5)) (some ⟨w.heap.size, 0, none⟩) [5, 5, 5] := RB.of_alloc w 5 (0, 0) [5, 5, 5] (by simp) (by simp)
set_option maxRecDepth 100000 in
set_option maxHeartbeats 1000000 in
theorem awake_any (w : World) : Calls Try.prog 12 #[] w fun e w' => e = .returned (.bool true) ∧ Below w.heap.size w w' := by
  go_enter Try.func12, Try.ntmps12
  go_wp2_with fail
  refine (encode_any _ 1 _ 3 [5, 5, 5] (rb3 w) (by simp)).mono ?_
  rintro e w1 ⟨v, rfl, ho, hb1⟩
  have hb1' : Below w.heap.size w w1 := below_then ((Below.refl w.heap.size w).alloc (Nat.le_refl _) _) (by simp) hb1
  rw [show errOf (enc 1 [5, 5, 5]) = 0 from rfl]
  have O1 : Aside0 (OB w1 _ 5 v [5]) := ⟨ho⟩
  obtain ⟨A1, c1, rfl, q1⟩ := O1.out.reads
  have Q1 := Aside0.mk q1
  clear ho hb1 O1 q1
  go_wp2_with fail
  refine (decode_any w1 1 4 A1 c1 [5] Q1.out (by simp) (by omega)).mono ?_
  rintro e w2 ⟨v2, rfl, ho2, hb2⟩
  rw [show (dec 1 [5] 4).1 = 0 from rfl]
  have O2 : Aside0 (OB w2 _ 5 v2 [5, 5, 5, 5]) := ⟨ho2⟩
  obtain ⟨A2, c2, rfl, q2⟩ := O2.out.reads
  have hb2' := below_then hb1' hb1'.size hb2
  have hcv1 : (convert 22 9 (.slice A1 1 c1)).run Try.prog w2 = .ok (.string ⟨#[5]⟩) w2 := RB.str (c := c1) Try.underlying22 Try.underlying5 Try.underlying9 (Q1.out.below hb2)
  have hcv2 : (convert 22 9 (.slice A2 4 c2)).run Try.prog w2 = .ok (.string ⟨#[5, 5, 5, 5]⟩) w2 := RB.str (c := c2) Try.underlying22 Try.underlying5 Try.underlying9 q2
  clear ho2 q2 O2 Q1 hb2
  go_wp2_with fail
  go_ret
  exact ⟨rfl, hb2'⟩

set_option maxRecDepth 100000 in
set_option maxHeartbeats 1000000 in
theorem refdecode_any (w : World) (k n : Int) (A : Option Addr) (c : Nat) (bs : List Nat) (hr : RB w A bs) (hn : bs.length ≤ 1000) (hm : n ≤ 1000 ∨ 131072 < n) :
    Calls Try.prog 17 #[.int .i64 k, .slice A bs.length c, .int .i64 n] w fun e w' => ∃ A' c', e = .returned (.tuple #[.slice A' (dec k bs n).2.length c', .int .i64 (dec k bs n).1]) ∧ RB w' A' (dec k bs n).2 ∧ Below w.heap.size w w' := by
  have HR := Aside0.mk hr
  clear hr
  by_cases hk : k = 0 ∨ k = 1
  · by_cases hn0 : 0 ≤ n ∧ n ≤ 131072
    · obtain ⟨m, rfl⟩ := Int.eq_ofNat_of_zero_le hn0.1
      rcases hk with rfl | rfl
      · by_cases hl : bs.length = m
        · subst hl
          have HE := Aside0.mk (show dec 0 bs (bs.length : Int) = (0, bs) by unfold dec; rw [if_pos ⟨.inl rfl, hn0⟩, if_pos rfl, if_pos rfl])
          rw [HE.out]
          clear hn0 hm
          go_enter Try.func17, Try.ntmps17
          go_wp2_with fail
          go_ret2
          exact ⟨A, c, rfl, HR.out, Below.refl _ _⟩
        · have HE := Aside0.mk (show dec 0 bs (m : Int) = (11, []) by unfold dec; rw [if_pos ⟨.inl rfl, hn0⟩, if_pos rfl, if_neg (by omega)])
          rw [HE.out]
          have hne : ((bs.length : Int) != (m : Int)) = true := by rw [bne_iff_ne]; omega
          go_enter Try.func17, Try.ntmps17
          go_wp2_with fail
          go_ret2
          first | exact ⟨none, 0, rfl, RB.nil _, Below.refl _ _⟩ | exact ⟨none, ⟨0, rfl⟩, RB.nil _, Below.refl _ _⟩
      · by_cases hl : bs.length = 1 ∧ 2 ≤ m
        · have HE := Aside0.mk (show dec 1 bs (m : Int) = (0, List.replicate m (bs.getD 0 0)) by unfold dec; rw [if_pos ⟨.inr rfl, hn0⟩, if_neg (by decide), if_pos ⟨hl.1, by omega⟩]; rfl)
          rw [HE.out]
          have hm1 : m ≤ 1000 := by omega
          obtain ⟨ad, rfl, hc⟩ := HR.out.at_ 0 (by omega)
          have hx8 := HR.out.lt 0
          have hc' : w.cell? ad = some (.int .u8 ((bs.getD 0 0 : Nat) : Int)) := hc
          generalize bs.getD 0 0 = x at *
          rw [hl.1]
          have hm2 := hl.2
          clear hc hl hn0 hm hn
          have hmk := print_make (P := Try.prog) 22 5 .u8 1 Try.underlying22 info_u8 (by decide) m (by omega)
          go_enter Try.func17, Try.ntmps17
          go_wp2_with fail
          have H0 := Aside0.mk (show OB (w.alloc (.cells (madeCells #[.int .u8 0] m) 5)) w.heap.size 5 (.slice (some ⟨w.heap.size, 0, none⟩) m m) (List.replicate m 0) from
            ⟨by intro b hb; have := List.eq_of_mem_replicate hb; omega, by
              have h := own_made w w.heap.size 5 .u8 m (Nat.le_refl _) (by omega)
              rw [List.length_replicate]
              have e : nb (List.replicate m 0) = nums .u8 (List.replicate m 0) := by simp [nb, nums]
              rw [e]; exact h⟩)
          clear hmk
          go_loopw [9] (fun i wr => ∃ (j : Nat) (cs : List Nat), j ≤ m ∧ i = .int .i64 j ∧ Aside0 (cs.length = m) ∧ Aside0 (∀ q, q < j → cs.getD q 0 = x) ∧ Aside0 (OB wr w.heap.size 5 (.slice (some ⟨w.heap.size, 0, none⟩) m m) cs) ∧ Below w.heap.size w wr) (fun i _ => m - (intOf i).toNat)
          case atStart => exact ⟨0, _, by omega, rfl, ⟨List.length_replicate ..⟩, ⟨by intro q hq; omega⟩, H0, below_alloc (Below.refl _ _) _⟩
          case round =>
            obtain ⟨j, cs, hj, rfl, HL, HA, HO, hbr⟩ := hrel
            by_cases hlt : j < m
            · have hc2 := pw_cell_below hbr hc'
              obtain ⟨hx1, hx2⟩ := HO.out.at' HL.out j hlt
              have P1 := HO.out.store' HL.out j x hx8
              have R1 := Aside0.mk P1.1
              have RL := Aside0.mk (show (cs.set j x).length = m by rw [List.length_set]; exact HL.out)
              have RA := Aside0.mk (show ∀ q, q < j + 1 → (cs.set j x).getD q 0 = x from fun q hq => by
                have hl := HL.out
                rw [List.getD_eq_getElem?_getD, List.getElem?_set]
                by_cases hqj : j = q
                · rw [if_pos hqj, if_pos (by omega)]; rfl
                · rw [if_neg hqj, ← List.getD_eq_getElem?_getD]; exact HA.out q (by omega))
              have R3 := Aside0.mk (hbr.setCell (p := ⟨w.heap.size, j, none⟩) (Nat.le_refl _) (.int .u8 (x : Int)))
              clear P1 HO HA
              generalize cs.getD j 0 = x0 at *
              go_wp2_with fail
              go_roundw
              case rel => exact ⟨j + 1, _, by omega, by go_num, RL, RA, R1, R3.out⟩
              case measure => simp [intOf]; omega
            · obtain rfl : j = m := by omega
              have HR2 := Aside0.mk (rep_all cs x j HL.out HA.out)
              have HO2 := HO.out
              rw [HR2.out] at HO2
              obtain ⟨A', c', he, q'⟩ := HO2.reads
              rw [List.length_replicate] at he
              injection he with hA hB hC
              subst hA hC
              have Q := Aside0.mk q'
              clear HO2 q' hB
              go_wp2_with fail
              go_ret2
              refine ⟨some ⟨w.heap.size, 0, none⟩, j, ?_, Q.out, hbr⟩
              show _ = Ending.returned (.tuple #[.slice _ (List.replicate j x).length _, .int .i64 0])
              rw [List.length_replicate]
              rfl
        · have HE := Aside0.mk (show dec 1 bs (m : Int) = (11, []) by unfold dec; rw [if_pos ⟨.inr rfl, hn0⟩, if_neg (by decide), if_neg (by omega)])
          rw [HE.out]
          by_cases h1 : bs.length = 1
          · have h2 : (m : Int) < 2 := by omega
            rw [h1]
            clear hl h1
            go_enter Try.func17, Try.ntmps17
            go_wp2_with fail
            go_ret2
            first | exact ⟨none, 0, rfl, RB.nil _, Below.refl _ _⟩ | exact ⟨none, ⟨0, rfl⟩, RB.nil _, Below.refl _ _⟩
          · have hne : ((bs.length : Int) != 1) = true := by rw [bne_iff_ne]; omega
            go_enter Try.func17, Try.ntmps17
            go_wp2_with fail
            go_ret2
            first | exact ⟨none, 0, rfl, RB.nil _, Below.refl _ _⟩ | exact ⟨none, ⟨0, rfl⟩, RB.nil _, Below.refl _ _⟩
    · have HE := Aside0.mk (show dec k bs n = (1, []) by unfold dec; rw [if_neg (fun h => hn0 h.2)])
      rw [HE.out]
      by_cases h1 : n < 0
      · rcases hk with rfl | rfl
        all_goals
          go_enter Try.func17, Try.ntmps17
          go_wp2_with fail
          go_ret2
          first | exact ⟨none, 0, rfl, RB.nil _, Below.refl _ _⟩ | exact ⟨none, ⟨0, rfl⟩, RB.nil _, Below.refl _ _⟩
      · have h2 : 131072 < n := by omega
        clear hn0 hm
        rcases hk with rfl | rfl
        all_goals
          go_enter Try.func17, Try.ntmps17
          go_wp2_with fail
          go_ret2
          first | exact ⟨none, 0, rfl, RB.nil _, Below.refl _ _⟩ | exact ⟨none, ⟨0, rfl⟩, RB.nil _, Below.refl _ _⟩
  · have HE := Aside0.mk (show dec k bs n = (1, []) by unfold dec; rw [if_neg (fun h => hk h.1)])
    rw [HE.out]
    by_cases h1 : k < 0
    · clear hk
      go_enter Try.func17, Try.ntmps17
      go_wp2_with fail
      go_ret2
      first | exact ⟨none, 0, rfl, RB.nil _, Below.refl _ _⟩ | exact ⟨none, ⟨0, rfl⟩, RB.nil _, Below.refl _ _⟩
    · have h2 : 1 < k := by omega
      clear hk
      go_enter Try.func17, Try.ntmps17
      go_wp2_with fail
      go_ret2
      first | exact ⟨none, 0, rfl, RB.nil _, Below.refl _ _⟩ | exact ⟨none, ⟨0, rfl⟩, RB.nil _, Below.refl _ _⟩
end Go.Proofs.Ytdgomddbppgkmaa.Plain
