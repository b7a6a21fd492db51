/- Proved here: the example of the chapter on directories answers true. Conditions: each theorem's own. -/
import Derived.Test.YtdgomddbppgkmaaDirRefs
namespace Go.Proofs.Ytdgomddbppgkmaa.Dir
open Go.RowKit Go.Proofs.YtdgomddbppgkmaaW.PrintWords Go.Proofs.Ytdgomddbppgkmaa.CrcM Go.Proofs.Ytdgomddbppgkmaa.BitsM Go.Proofs.Ytdgomddbppgkmaa.Base Go.Proofs.Ytdgomddbppgkmaa.Bitw Go.Proofs.Ytdgomddbppgkmaa.DirM

def exB : List Nat := [3, 2, 0, 0, 0, 0, 0, 0, 0, 0, 0, 0, 0, 0, 0, 0, 0, 0, 0, 0, 0, 0, 0, 0, 0, 0, 0, 0, 0, 0, 0, 0]
theorem ex_ok : okL [0, 1, 9] = true := by decide
theorem ex_put : putB [0, 1, 9] = exB := by decide
theorem ex_takeE : takeE exB = 0 := by decide
theorem ex_takeL : takeL exB = [0, 1, 9] := by decide
theorem ex_has9 : hasV exB 9 = true := by decide
theorem ex_has8 : hasV exB 8 = false := by decide
theorem ri3 (w : World) : RI (w.alloc (.cells #[.int .i64 0, .int .i64 1, .int .i64 9] 3)) (some ⟨w.heap.size, 0, none⟩) [0, 1, 9] := by
  have h := own_lit w w.heap.size 3 .i64 [0, 1, 9] (Nat.le_refl _) (by simp)
  obtain ⟨A, c, e, hr⟩ := own_reads h
  injection e with e1 e2 e3
  rw [← e1] at hr
  exact hr
theorem ex_len : exB.length = 32 := rfl
theorem ob_form2 {w : World} {base n : Nat} {e : TypeId} {v : Value} {bs : List Nat} (h : OB w base e v bs) (hn : bs.length = n) (hp : 0 < n) : ∃ g cap, v = .slice (some ⟨g, 0, none⟩) n cap ∧ n ≤ cap ∧ RB w (some ⟨g, 0, none⟩) bs := by
  subst hn
  obtain ⟨A, c, e, hr⟩ := h.reads
  rcases h.2.2 with ⟨_, h0⟩ | ⟨g, cap, cur, hv, _, _, hnc, _⟩
  · omega
  · rw [hv] at e
    injection e with e1 e2 e3
    rw [← e1] at hr
    exact ⟨g, cap, hv, hnc, hr⟩
set_option maxRecDepth 100000 in
set_option maxHeartbeats 1000000 in
theorem awake_any (w : World) : Calls Try.prog 18 #[] w fun e w' => e = .returned (.bool true) ∧ Below w.heap.size w w' := by
  go_enter Try.func18, Try.ntmps18
  go_wp2_with fail
  refine (dput_any _ _ 3 [0, 1, 9] (ri3 w) (by simp)).mono ?_
  rintro e w1 ⟨v, rfl, ho, hb1⟩
  have hb1' : Below w.heap.size w w1 := below_then ((Below.refl w.heap.size w).alloc (Nat.le_refl _) _) (by simp) hb1
  rw [ex_put] at ho
  rw [ex_ok]
  obtain ⟨g, c1, rfl, hc1, q1⟩ := ob_form2 ho (n := 32) (by decide) (by decide)
  have HO := Aside0.mk ho
  have HB := Aside0.mk hb1'
  have ht := take_any w1 (some ⟨g, 0, none⟩) c1 exB q1 (by rw [ex_len]; exact hc1)
  rw [ex_takeE, ex_takeL, ex_len] at ht
  have HT := Aside0.mk ht
  clear ho hb1 hb1' q1 ht
  go_wp2_with fail
  refine HT.out.mono ?_
  rintro e w2 ⟨v2, rfl, hn2, hb2⟩
  obtain ⟨A2, c2, rfl, hri⟩ := NI.reads hn2
  have HO2 := HO.out.below hb2
  obtain ⟨hx0, -⟩ := HO2.at' ex_len 0 (by omega)
  obtain ⟨hx1, -⟩ := HO2.at' ex_len 1 (by omega)
  obtain ⟨hx31, -⟩ := HO2.at' ex_len 31 (by omega)
  rw [show exB.getD 0 0 = 3 from rfl] at hx0
  rw [show exB.getD 1 0 = 2 from rfl] at hx1
  rw [show exB.getD 31 0 = 0 from rfl] at hx31
  have HO3 := Aside0.mk HO2
  have HB2 := Aside0.mk (below_then HB.out HB.out.size hb2)
  have HI := Aside0.mk hri
  clear hn2 hb2 HO2 hri
  go_wp2_with fail
  have hb3 : Below w2.heap.size w2 (w2.alloc (.cells #[.int .i64 0, .int .i64 1, .int .i64 9] 3)) := (Below.refl _ _).alloc (Nat.le_refl _) _
  refine (ints_any _ A2 _ c2 3 (zl [0, 1, 9]) [0, 1, 9] (HI.out.below hb3) (ri3 w2) (by simp [zl])).mono ?_
  rintro e w3 ⟨rfl, hb4⟩
  have hb5 := below_then hb3 (by simp) hb4
  have HO5 := Aside0.mk (HO3.out.below hb5)
  have HB5 := Aside0.mk (below_then HB2.out HB2.out.size hb5)
  rw [show (zl [0, 1, 9] == [0, 1, 9]) = true from rfl]
  obtain ⟨g', c', e', -, q5⟩ := ob_form2 HO5.out (n := 32) ex_len (by omega)
  injection e' with e1 e2 e3
  rw [← e1] at q5
  have hh9 := has_any w3 (some ⟨g, 0, none⟩) c1 exB 9 q5 (by rw [ex_len]; exact hc1)
  rw [ex_has9, ex_len] at hh9
  have HH9 := Aside0.mk hh9
  clear hb3 hb4 hb5 hh9 q5 e1 e2 e3 hx0 hx1 hx31
  go_wp2_with fail
  refine HH9.out.mono ?_
  rintro e w4 ⟨rfl, hb6⟩
  have HO6 := Aside0.mk (HO5.out.below hb6)
  have HB6 := Aside0.mk (below_then HB5.out HB5.out.size hb6)
  obtain ⟨g'', c'', e', -, q6⟩ := ob_form2 HO6.out (n := 32) ex_len (by omega)
  injection e' with e1 e2 e3
  rw [← e1] at q6
  have hh8 := has_any w4 (some ⟨g, 0, none⟩) c1 exB 8 q6 (by rw [ex_len]; exact hc1)
  rw [ex_has8, ex_len] at hh8
  have HH8 := Aside0.mk hh8
  clear hb6 hh8 q6 e1 e2 e3
  go_wp2_with fail
  refine HH8.out.mono ?_
  rintro e w5 ⟨rfl, hb7⟩
  have HB7 := Aside0.mk (below_then HB6.out HB6.out.size hb7)
  clear hb7
  go_wp2_with fail
  go_ret
  exact ⟨rfl, HB7.out⟩
end Go.Proofs.Ytdgomddbppgkmaa.Dir
