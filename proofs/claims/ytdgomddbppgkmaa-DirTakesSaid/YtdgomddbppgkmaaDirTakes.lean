/- Proved here: the law DirTakes returns true for every input and changes nothing that was there. Conditions: none. -/
import Derived.Test.YtdgomddbppgkmaaDirAwake
namespace Go.Proofs.Ytdgomddbppgkmaa.Dir
open Go.RowKit Go.Proofs.YtdgomddbppgkmaaW.PrintWords Go.Proofs.Ytdgomddbppgkmaa.CrcM Go.Proofs.Ytdgomddbppgkmaa.BitsM Go.Proofs.Ytdgomddbppgkmaa.Base Go.Proofs.Ytdgomddbppgkmaa.Bitw Go.Proofs.Ytdgomddbppgkmaa.DirM

set_option maxRecDepth 100000 in
set_option maxHeartbeats 400000 in
theorem takes_long (c : Nat) (A : Option Addr) (l : Nat) (x : Int) (w : World) (hn : 100 < l) :
    Calls Try.prog 8 #[.slice A l c, .int .i64 x] w fun e w' => e = .returned (.bool true) ∧ Below w.heap.size w w' := by
  go_enter Try.func8, Try.ntmps8
  go_wp2_with (go_at_call 18; refine (awake_any _).mono ?_; rintro e w1 ⟨rfl, hb1⟩)
  go_ret
  exact ⟨rfl, hb1⟩
set_option maxRecDepth 100000 in
set_option maxHeartbeats 1000000 in
theorem takes_short (c : Nat) (A : Option Addr) (bs : List Nat) (x : Int) (w : World) (hr : RB w A bs) (hc : bs.length ≤ c) (hn : bs.length ≤ 100) :
    Calls Try.prog 8 #[.slice A bs.length c, .int .i64 x] w fun e w' => e = .returned (.bool true) ∧ Below w.heap.size w w' := by
  have HR := Aside0.mk hr
  have HLT := Aside0.mk (show (zl (takeL bs)).length ≤ 1000 from by
    rw [zl_len, takeL]
    split
    · simp
    · split
      · have := onesTo_len (val (bs.take 32)) 256; rw [onesOf]; omega
      · simp)
  clear hr
  go_enter Try.func8, Try.ntmps8
  go_wp2_with (go_at_call 18; refine (awake_any _).mono ?_; rintro e w1 ⟨rfl, hb1⟩)
  refine (take_any w1 A c bs (HR.out.below hb1) hc).mono ?_
  rintro e w2 ⟨v, rfl, ho, hb2⟩
  have hb2' := below_then hb1 hb1.size hb2
  have O2 := Aside0.mk (show NI w2 _ v (takeL bs) from ho)
  clear ho
  go_wp2_with fail
  refine (rtake_any w2 A c bs (HR.out.below hb2')).mono ?_
  rintro e w3 ⟨v3, rfl, ho3, hb3⟩
  have hb3' := below_then hb2' hb2'.size hb3
  obtain ⟨Av, cv, rfl, q⟩ := NI.reads O2.out
  obtain ⟨Au, cu, rfl, q2⟩ := NI.reads (show NI w3 _ v3 (takeL bs) from ho3)
  have Q := Aside0.mk (q.below hb3)
  have R := Aside0.mk q2
  clear q q2 ho3 O2 hb2 hb3
  have hh1 := ints_any w3 Av Au cv cu (zl (takeL bs)) (zl (takeL bs)) Q.out R.out HLT.out
  rw [zl_len, beq_self_eq_true] at hh1
  have HH := Aside0.mk hh1
  clear hh1
  generalize takeL bs = L at *
  generalize takeE bs = E at *
  go_wp2_with fail
  refine HH.out.mono ?_
  rintro e w4 ⟨rfl, hb4⟩
  have hb4' := below_then hb3' hb3'.size hb4
  clear hb4
  go_wp2_with fail
  refine (has_any w4 A c bs x (HR.out.below hb4') hc).mono ?_
  rintro e w5 ⟨rfl, hb5⟩
  have hb5' := below_then hb4' hb4'.size hb5
  clear hb5
  go_wp2_with fail
  refine (rhas_any w5 A c bs x (HR.out.below hb5')).mono ?_
  rintro e w6 ⟨rfl, rfl⟩
  go_wp2_with fail
  go_ret
  exact ⟨rfl, hb5'⟩
theorem takes_walk (a0 : Option Addr) (len0 cap0 : Nat) (z0 : List Int) (a1 : Int) (w : World) (w0 : IsRow .u8 w a0 len0 cap0 z0) (_y0 : len0 * 1 ≤ 140737488351232) (_w1 : (Lit.int .i64 a1).wf = true) :
    Calls Try.prog 8 #[.slice a0 len0 cap0, .int .i64 a1] w fun e w' => e = .returned (.bool true) ∧ Below w.heap.size w w' := by
  obtain ⟨bs, rfl, hr, hc⟩ := RB.of_row w0
  rcases Nat.lt_or_ge 100 bs.length with h | h
  · exact takes_long cap0 a0 _ a1 w h
  · exact takes_short cap0 a0 bs a1 w hr hc h
end Go.Proofs.Ytdgomddbppgkmaa.Dir
