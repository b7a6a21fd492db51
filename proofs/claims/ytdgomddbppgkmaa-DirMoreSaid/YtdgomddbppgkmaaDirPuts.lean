/- Proved here: the law DirPuts returns true for every input and changes nothing that was there. Conditions: none. -/
import Derived.Test.YtdgomddbppgkmaaDirAwake
namespace Go.Proofs.Ytdgomddbppgkmaa.Dir
open Go.RowKit Go.Proofs.YtdgomddbppgkmaaW.PrintWords Go.Proofs.Ytdgomddbppgkmaa.CrcM Go.Proofs.Ytdgomddbppgkmaa.BitsM Go.Proofs.Ytdgomddbppgkmaa.Base Go.Proofs.Ytdgomddbppgkmaa.Bitw Go.Proofs.Ytdgomddbppgkmaa.DirM

theorem RI.of_row {w : World} {a : Option Addr} {len cap : Nat} {zs : List Int} (h : IsRow .i64 w a len cap zs) : ∃ l : List Int, len = l.length ∧ RI w a l ∧ l.length ≤ cap := by
  obtain ⟨l, e, hr, _, hw, hc⟩ := ReadsInt.ofRowC h
  subst e
  exact ⟨l, rfl, hr, hc⟩
set_option maxRecDepth 100000 in
set_option maxHeartbeats 400000 in
theorem same_any (w : World) (A B : Option Addr) (c d : Nat) (xs ys : List Nat) (hx : RB w A xs) (hy : RB w B ys) :
    Calls Try.prog 15 #[.slice A xs.length c, .slice B ys.length d] w fun e w' => e = .returned (.bool (xs == ys)) ∧ w = w' := by
  have hcx := RB.str (c := c) Try.underlying22 Try.underlying5 Try.underlying9 hx
  have hcy := RB.str (c := d) Try.underlying22 Try.underlying5 Try.underlying9 hy
  have HE := Aside0.mk (str_eq xs ys hx.1 hy.1)
  clear hx hy
  go_enter Try.func15, Try.ntmps15
  go_wp2
  go_ret
  exact ⟨ret_bool HE.out, rfl⟩

set_option maxRecDepth 100000 in
set_option maxHeartbeats 400000 in
theorem puts_long (c : Nat) (A : Option Addr) (l : Nat) (w : World) (hn : 300 < l) :
    Calls Try.prog 7 #[.slice A l c] w fun e w' => e = .returned (.bool true) ∧ Below w.heap.size w w' := by
  go_enter Try.func7, Try.ntmps7
  go_wp2_with (go_at_call 18; refine (awake_any _).mono ?_; rintro e w1 ⟨rfl, hb1⟩)
  go_ret
  exact ⟨rfl, hb1⟩
set_option maxRecDepth 100000 in
set_option maxHeartbeats 1000000 in
theorem puts_short (c : Nat) (A : Option Addr) (zs : List Int) (w : World) (hr : RI w A zs) (hn : zs.length ≤ 300) :
    Calls Try.prog 7 #[.slice A zs.length c] w fun e w' => e = .returned (.bool true) ∧ Below w.heap.size w w' := by
  have HR := Aside0.mk hr
  clear hr
  go_enter Try.func7, Try.ntmps7
  go_wp2_with (go_at_call 18; refine (awake_any _).mono ?_; rintro e w1 ⟨rfl, hb1⟩)
  refine (dput_any w1 A c zs (HR.out.below hb1) (by omega)).mono ?_
  rintro e w2 ⟨v, rfl, ho, hb2⟩
  have hb2' := below_then hb1 hb1.size hb2
  have O2 := Aside0.mk ho
  clear ho
  go_wp2_with fail
  refine (rput_any w2 A c zs (HR.out.below hb2') (by omega)).mono ?_
  rintro e w3 ⟨v3, rfl, ho3, hb3⟩
  have hb3' := below_then hb2' hb2'.size hb3
  obtain ⟨Av, cv, rfl, q⟩ := (O2.out.below hb3).reads
  obtain ⟨Au, cu, rfl, q2⟩ := ho3.reads
  have Q := Aside0.mk q
  have R := Aside0.mk q2
  clear q q2 ho3 O2 hb2 hb3
  generalize putB zs = ys at *
  generalize okL zs = b at *
  go_wp2_with fail
  refine (same_any w3 Av Au cv cu ys ys Q.out R.out).mono ?_
  rintro e w4 ⟨rfl, rfl⟩
  rw [beq_self_eq_true]
  go_wp2_with fail
  go_ret
  exact ⟨rfl, hb3'⟩
theorem puts_walk (a0 : Option Addr) (len0 cap0 : Nat) (z0 : List Int) (w : World) (w0 : IsRow .i64 w a0 len0 cap0 z0) (_y0 : len0 * 8 ≤ 140737488351232) :
    Calls Try.prog 7 #[.slice a0 len0 cap0] w fun e w' => e = .returned (.bool true) ∧ Below w.heap.size w w' := by
  obtain ⟨zs, rfl, hr, hc⟩ := RI.of_row w0
  rcases Nat.lt_or_ge 300 zs.length with h | h
  · exact puts_long cap0 a0 _ w h
  · exact puts_short cap0 a0 zs w hr h
end Go.Proofs.Ytdgomddbppgkmaa.Dir
