/- Proved here: the law PlainDecode returns true for every input and changes nothing that was there. Conditions: none. -/
import Derived.Test.YtdgomddbppgkmaaPlainLaws
namespace Go.Proofs.Ytdgomddbppgkmaa.Plain
open Go.RowKit Go.Proofs.YtdgomddbppgkmaaW.PrintWords Go.Proofs.Ytdgomddbppgkmaa.CrcM Go.Proofs.Ytdgomddbppgkmaa.BitsM Go.Proofs.Ytdgomddbppgkmaa.Base Go.Proofs.Ytdgomddbppgkmaa.Bitw

set_option maxRecDepth 100000 in
set_option maxHeartbeats 400000 in
theorem decode_long (k n : Int) (c : Nat) (A : Option Addr) (l : Nat) (w : World) (hn : 300 < l ∨ (300 < n ∧ n ≤ 131072)) :
    Calls Try.prog 4 #[.int .i64 k, .slice A l c, .int .i64 n] w fun e w' => e = .returned (.bool true) ∧ Below w.heap.size w w' := by
  by_cases h1 : 300 < l
  · clear hn
    go_enter Try.func4, Try.ntmps4
    go_wp2_with (go_at_call 12; refine (awake_any _).mono ?_; rintro e w1 ⟨rfl, hb1⟩)
    go_ret
    exact ⟨rfl, hb1⟩
  · obtain ⟨h2, h3⟩ : 300 < n ∧ n ≤ 131072 := by omega
    clear hn
    go_enter Try.func4, Try.ntmps4
    go_wp2_with (go_at_call 12; refine (awake_any _).mono ?_; rintro e w1 ⟨rfl, hb1⟩)
    go_ret
    exact ⟨rfl, hb1⟩
set_option maxRecDepth 100000 in
set_option maxHeartbeats 1000000 in
theorem decode_short (k n : Int) (c : Nat) (A : Option Addr) (bs : List Nat) (w : World) (hr : RB w A bs) (hn : bs.length ≤ 300) (hm : n ≤ 300 ∨ 131072 < n) :
    Calls Try.prog 4 #[.int .i64 k, .slice A bs.length c, .int .i64 n] w fun e w' => e = .returned (.bool true) ∧ Below w.heap.size w w' := by
  have HR := Aside0.mk hr
  have hd : (decide (300 < n) && decide (n ≤ 131072)) = false := by
    rcases hm with h | h
    · rw [decide_eq_false (by omega), Bool.false_and]
    · rw [decide_eq_false (show ¬ n ≤ 131072 by omega), Bool.and_false]
  clear hr
  rcases hm with hm | hm
  all_goals
    go_enter Try.func4, Try.ntmps4
    go_wp2_with (go_at_call 12; refine (awake_any _).mono ?_; rintro e w1 ⟨rfl, hb1⟩)
    refine (decode_any w1 k n A c bs (HR.out.below hb1) (by omega) (by omega)).mono ?_
    rintro e w2 ⟨v, rfl, ho, hb2⟩
    have hb2' := below_then hb1 hb1.size hb2
    have O2 := Aside0.mk ho
    clear ho
    go_wp2_with fail
    refine (refdecode_any w2 k n A c bs (HR.out.below hb2') (by omega) (by omega)).mono ?_
    rintro e w3 ⟨A', c', rfl, hr3, hb3⟩
    have hb3' := below_then hb2' hb2'.size hb3
    obtain ⟨Av, cv, rfl, q⟩ := (O2.out.below hb3).reads
    have Q := Aside0.mk q
    have R := Aside0.mk hr3
    clear q hr3 hb2 hb3
    generalize (dec k bs n).2 = ys at *
    generalize (dec k bs n).1 = er at *
    go_wp2_with fail
    refine (same_any w3 Av A' cv c' ys ys Q.out R.out).mono ?_
    rintro e w4 ⟨rfl, rfl⟩
    rw [beq_self_eq_true]
    go_wp2_with fail
    go_ret
    exact ⟨rfl, hb3'⟩
theorem decode_walk (a0 : Int) (a1 : Option Addr) (len1 cap1 : Nat) (z1 : List Int) (a2 : Int) (w : World) (_w0 : (Lit.int .i64 a0).wf = true) (w1 : IsRow .u8 w a1 len1 cap1 z1) (_y1 : len1 * 1 ≤ 140737488351232) (_w2 : (Lit.int .i64 a2).wf = true) :
    Calls Try.prog 4 #[.int .i64 a0, .slice a1 len1 cap1, .int .i64 a2] w fun e w' => e = .returned (.bool true) ∧ Below w.heap.size w w' := by
  obtain ⟨bs, rfl, hr, _⟩ := RB.of_row w1
  by_cases h : 300 < bs.length ∨ (300 < a2 ∧ a2 ≤ 131072)
  · exact decode_long a0 a2 cap1 a1 _ w h
  · exact decode_short a0 a2 cap1 a1 bs w hr (by omega) (by omega)
end Go.Proofs.Ytdgomddbppgkmaa.Plain
