/- Proved here: the law PlainEncode returns true for every input and changes nothing that was there. Conditions: none. -/
import Derived.Test.YtdgomddbppgkmaaPlainLaws
namespace Go.Proofs.Ytdgomddbppgkmaa.Plain
open Go.RowKit Go.Proofs.YtdgomddbppgkmaaW.PrintWords Go.Proofs.Ytdgomddbppgkmaa.CrcM Go.Proofs.Ytdgomddbppgkmaa.BitsM Go.Proofs.Ytdgomddbppgkmaa.Base Go.Proofs.Ytdgomddbppgkmaa.Bitw

set_option maxRecDepth 100000 in
set_option maxHeartbeats 400000 in
theorem encode_long (k : Int) (c : Nat) (A : Option Addr) (l : Nat) (w : World) (hn : 300 < l) :
    Calls Try.prog 3 #[.int .i64 k, .slice A l c] w fun e w' => e = .returned (.bool true) ∧ Below w.heap.size w w' := by
  go_enter Try.func3, Try.ntmps3
  go_wp2_with (go_at_call 12; refine (awake_any _).mono ?_; rintro e w1 ⟨rfl, hb1⟩)
  go_ret
  exact ⟨rfl, hb1⟩
set_option maxRecDepth 100000 in
set_option maxHeartbeats 1000000 in
theorem encode_short (k : Int) (c : Nat) (A : Option Addr) (bs : List Nat) (w : World) (hr : RB w A bs) (hc : bs.length ≤ c) (hn : bs.length ≤ 300) :
    Calls Try.prog 3 #[.int .i64 k, .slice A bs.length c] w fun e w' => e = .returned (.bool true) ∧ Below w.heap.size w w' := by
  have HR := Aside0.mk hr
  clear hr
  go_enter Try.func3, Try.ntmps3
  go_wp2_with (go_at_call 12; refine (awake_any _).mono ?_; rintro e w1 ⟨rfl, hb1⟩)
  refine (encode_any w1 k A c bs (HR.out.below hb1) (by omega)).mono ?_
  rintro e w2 ⟨v, rfl, ho, hb2⟩
  have hb2' := below_then hb1 hb1.size hb2
  have O2 := Aside0.mk ho
  clear ho
  go_wp2_with fail
  refine (refencode_any w2 k A c bs (HR.out.below hb2') hc (by omega)).mono ?_
  rintro e w3 ⟨A', c', rfl, hr3, hb3⟩
  have hb3' := below_then hb2' hb2'.size hb3
  obtain ⟨Av, cv, rfl, q⟩ := (O2.out.below hb3).reads
  have Q := Aside0.mk q
  have R := Aside0.mk hr3
  clear q hr3 hb2 hb3
  generalize (enc k bs).getD [] = ys at *
  generalize errOf (enc k bs) = er at *
  go_wp2_with fail
  refine (same_any w3 Av A' cv c' ys ys Q.out R.out).mono ?_
  rintro e w4 ⟨rfl, rfl⟩
  rw [beq_self_eq_true]
  go_wp2_with fail
  go_ret
  exact ⟨rfl, hb3'⟩
theorem encode_walk (a0 : Int) (a1 : Option Addr) (len1 cap1 : Nat) (z1 : List Int) (w : World) (_w0 : (Lit.int .i64 a0).wf = true) (w1 : IsRow .u8 w a1 len1 cap1 z1) (_y1 : len1 * 1 ≤ 140737488351232) :
    Calls Try.prog 3 #[.int .i64 a0, .slice a1 len1 cap1] w fun e w' => e = .returned (.bool true) ∧ Below w.heap.size w w' := by
  obtain ⟨bs, rfl, hr, hc⟩ := RB.of_row w1
  rcases Nat.lt_or_ge 300 bs.length with h | h
  · exact encode_long a0 cap1 a1 _ w h
  · exact encode_short a0 cap1 a1 bs w hr hc h
end Go.Proofs.Ytdgomddbppgkmaa.Plain
