/- Proved here: the law DirOne returns true for every input and changes nothing that was there. Conditions: none. -/
import Derived.Test.YtdgomddbppgkmaaDirLists
import Derived.Test.YtdgomddbppgkmaaDirPuts
namespace Go.Proofs.Ytdgomddbppgkmaa.Dir
open Go.RowKit Go.Proofs.YtdgomddbppgkmaaW.PrintWords Go.Proofs.Ytdgomddbppgkmaa.CrcM Go.Proofs.Ytdgomddbppgkmaa.BitsM Go.Proofs.Ytdgomddbppgkmaa.Base Go.Proofs.Ytdgomddbppgkmaa.Bitw Go.Proofs.Ytdgomddbppgkmaa.DirM

theorem takeL_len (bs : List Nat) : (takeL bs).length ≤ 256 := by
  rw [takeL]
  split
  · simp
  · split
    · have := onesTo_len (val (bs.take 32)) 256; rw [onesOf]; omega
    · simp
/-- What is taken, as three cases. -/
theorem take_cases (bs : List Nat) (hb : ∀ x ∈ bs, x < 256) :
    (bs.length < 32 ∧ takeE bs = 3 ∧ takeL bs = []) ∨ (¬ bs.length < 32 ∧ takeE bs = 13 ∧ takeL bs = []) ∨
    (¬ bs.length < 32 ∧ takeE bs = 0 ∧ okL (zl (takeL bs)) = true ∧ putB (zl (takeL bs)) = bs.take 32) := by
  by_cases h : bs.length < 32
  · exact .inl ⟨h, by rw [takeE, if_pos h], by rw [takeL, if_pos h]⟩
  · by_cases h0 : (onesOf bs).head? = some 0
    · have h0' : tb (val (bs.take 32)) 0 = true := (head_ones _ 255).1 h0
      have hp := put_ones (bs.take 32) (fun x hx => hb x (List.mem_of_mem_take hx)) (by simp; omega) h0'
      have e : takeL bs = onesTo (val (bs.take 32)) 256 := by rw [takeL, if_neg h, if_pos h0, onesOf]
      rw [← e] at hp
      exact .inr (.inr ⟨h, by rw [takeE, if_neg h, if_pos h0], hp.1, hp.2⟩)
    · exact .inr (.inl ⟨h, by rw [takeE, if_neg h, if_neg h0], by rw [takeL, if_neg h, if_neg h0]⟩)

set_option maxRecDepth 100000 in
set_option maxHeartbeats 400000 in
theorem one_long (c : Nat) (A : Option Addr) (l : Nat) (w : World) (hn : 100 < l) :
    Calls Try.prog 9 #[.slice A l c] w fun e w' => e = .returned (.bool true) ∧ Below w.heap.size w w' := by
  go_enter Try.func9, Try.ntmps9
  go_wp2_with (go_at_call 18; refine (awake_any _).mono ?_; rintro e w1 ⟨rfl, hb1⟩)
  go_ret
  exact ⟨rfl, hb1⟩
set_option maxRecDepth 100000 in
set_option maxHeartbeats 1000000 in
theorem one_short (c : Nat) (A : Option Addr) (bs : List Nat) (w : World) (hr : RB w A bs) (hc : bs.length ≤ c) (hn : bs.length ≤ 100) :
    Calls Try.prog 9 #[.slice A bs.length c] w fun e w' => e = .returned (.bool true) ∧ Below w.heap.size w w' := by
  have HR := Aside0.mk hr
  have HC := Aside0.mk (take_cases bs hr.1)
  have HLT := Aside0.mk (takeL_len bs)
  clear hr
  go_enter Try.func9, Try.ntmps9
  go_wp2_with (go_at_call 18; refine (awake_any _).mono ?_; rintro e w1 ⟨rfl, hb1⟩)
  refine (take_any w1 A c bs (HR.out.below hb1) hc).mono ?_
  rintro e w2 ⟨v, rfl, ho, hb2⟩
  have hb2' := below_then hb1 hb1.size hb2
  obtain ⟨Av, cv, rfl, q⟩ := NI.reads (show NI w2 _ v (takeL bs) from ho)
  have hp := dput_any w2 Av cv (zl (takeL bs)) q (by rw [zl_len]; have := HLT.out; omega)
  rw [zl_len] at hp
  have HP := Aside0.mk hp
  clear ho q hb2 hp
  rcases HC.out with ⟨h32, hE, hL⟩ | ⟨h32, hE, hL⟩ | ⟨h32, hE, hok, hpB⟩
  · rw [hE]
    rw [hL] at HP ⊢
    clear hE hL HLT HC
    have hd : decide ((bs.length : Int) < 32) = true := by simp; omega
    go_wp2_with fail
    refine HP.out.mono ?_
    rintro e w3 ⟨v3, rfl, ho3, hb3⟩
    have hb3' := below_then hb2' hb2'.size hb3
    rw [show okL (zl []) = false from rfl]
    clear ho3 hb3
    go_wp2_with fail
    go_ret
    exact ⟨rfl, hb3'⟩
  · rw [hE]
    rw [hL] at HP ⊢
    clear hE hL HLT HC
    have hd : decide ((bs.length : Int) < 32) = false := by simp; omega
    go_wp2_with fail
    refine HP.out.mono ?_
    rintro e w3 ⟨v3, rfl, ho3, hb3⟩
    have hb3' := below_then hb2' hb2'.size hb3
    rw [show okL (zl []) = false from rfl]
    clear ho3 hb3
    go_wp2_with fail
    go_ret
    exact ⟨rfl, hb3'⟩
  · rw [hE]
    rw [hok, hpB] at HP
    clear hE hok hpB HC
    generalize takeL bs = L at *
    have hd : decide ((bs.length : Int) < 32) = false := by simp; omega
    have hlt : ¬ ((bs.length : Int) < 32) := by omega
    go_wp2_with fail
    refine HP.out.mono ?_
    rintro e w3 ⟨v3, rfl, ho3, hb3⟩
    have hb3' := below_then hb2' hb2'.size hb3
    obtain ⟨A3, c3, rfl, q3⟩ := ho3.reads
    have hs := same_any w3 A3 A c3 c (bs.take 32) (bs.take 32) q3 ((HR.out.below hb3').take_ 32 (by omega))
    rw [beq_self_eq_true, show (bs.take 32).length = 32 from by simp; omega] at hs
    have HS := Aside0.mk hs
    rw [show (bs.take 32).length = 32 from by simp; omega]
    clear ho3 hb3 q3 hs
    go_wp2_with fail
    refine HS.out.mono ?_
    rintro e w4 ⟨rfl, rfl⟩
    go_wp2_with fail
    go_ret
    exact ⟨rfl, hb3'⟩
theorem one_walk (a0 : Option Addr) (len0 cap0 : Nat) (z0 : List Int) (w : World) (w0 : IsRow .u8 w a0 len0 cap0 z0) (_y0 : len0 * 1 ≤ 140737488351232) :
    Calls Try.prog 9 #[.slice a0 len0 cap0] w fun e w' => e = .returned (.bool true) ∧ Below w.heap.size w w' := by
  obtain ⟨bs, rfl, hr, hc⟩ := RB.of_row w0
  rcases Nat.lt_or_ge 100 bs.length with h | h
  · exact one_long cap0 a0 _ w h
  · exact one_short cap0 a0 bs w hr hc h
end Go.Proofs.Ytdgomddbppgkmaa.Dir
