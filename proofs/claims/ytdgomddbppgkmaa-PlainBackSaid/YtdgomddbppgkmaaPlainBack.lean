/- Proved here: the law PlainBack returns true for every input and changes nothing that was there. Conditions: none. -/
import Derived.Test.YtdgomddbppgkmaaPlainLaws
namespace Go.Proofs.Ytdgomddbppgkmaa.Plain
open Go.RowKit Go.Proofs.YtdgomddbppgkmaaW.PrintWords Go.Proofs.Ytdgomddbppgkmaa.CrcM Go.Proofs.Ytdgomddbppgkmaa.BitsM Go.Proofs.Ytdgomddbppgkmaa.Base Go.Proofs.Ytdgomddbppgkmaa.Bitw

/-! plain -/
theorem alike_rep (bs : List Nat) (h : alikeB bs = true) : 2 ≤ bs.length ∧ bs = List.replicate bs.length (bs.getD 0 0) := by
  unfold alikeB at h
  rw [Bool.and_eq_true, decide_eq_true_eq, List.all_eq_true] at h
  refine ⟨h.1, ?_⟩
  rw [List.eq_replicate_iff]
  exact ⟨rfl, fun b hb => by simpa using h.2 b hb⟩
theorem rep_alike (x n : Nat) (h : 2 ≤ n) : alikeB (List.replicate n x) = true := by
  unfold alikeB
  have e : (List.replicate n x).getD 0 0 = x := by rw [List.getD_eq_getElem?_getD, List.getElem?_replicate, if_pos (by omega)]; rfl
  rw [e, List.length_replicate, decide_eq_true (by omega), Bool.true_and, List.all_eq_true]
  intro y hy
  simpa using List.eq_of_mem_replicate hy
theorem enc_dec (k : Int) (bs xs : List Nat) (hk : k = 0 ∨ k = 1) (hn : bs.length ≤ 1000) (h : enc k bs = some xs) : dec k xs (bs.length : Int) = (0, bs) ∧ xs.length ≤ 1000 := by
  rcases hk with rfl | rfl
  · unfold enc at h
    rw [if_pos rfl] at h
    injection h with h
    subst h
    unfold dec
    rw [if_pos ⟨.inl rfl, by omega, by omega⟩, if_pos rfl, if_pos rfl]
    exact ⟨rfl, hn⟩
  · unfold enc at h
    rw [if_neg (by decide), if_pos rfl] at h
    by_cases ha : alikeB bs = true
    · rw [if_pos ha] at h
      injection h with h
      subst h
      have hr := alike_rep bs ha
      have hl : (bs.take 1).length = 1 := by rw [List.length_take]; omega
      have hg : (bs.take 1).getD 0 0 = bs.getD 0 0 := by simp [List.getD_eq_getElem?_getD]
      unfold dec
      rw [if_pos ⟨.inr rfl, by omega, by omega⟩, if_neg (by decide), if_pos ⟨hl, by omega⟩, hg]
      refine ⟨?_, by omega⟩
      rw [Int.toNat_natCast, ← hr.2]
    · rw [if_neg ha] at h
      cases h
theorem dec_enc (k : Int) (bs : List Nat) (n : Nat) (hk : k = 0 ∨ k = 1) (hn : n ≤ 1000) : dec k bs (n : Int) = (11, []) ∨ ((dec k bs (n : Int)).1 = 0 ∧ (dec k bs (n : Int)).2.length = n ∧ enc k (dec k bs (n : Int)).2 = some bs) := by
  rcases hk with rfl | rfl
  · unfold dec
    rw [if_pos ⟨.inl rfl, by omega, by omega⟩, if_pos rfl]
    by_cases h : (bs.length : Int) = n
    · rw [if_pos h]
      exact .inr ⟨rfl, by show bs.length = n; omega, rfl⟩
    · rw [if_neg h]; exact .inl rfl
  · unfold dec
    rw [if_pos ⟨.inr rfl, by omega, by omega⟩, if_neg (by decide)]
    by_cases h : bs.length = 1 ∧ 2 ≤ (n : Int)
    · rw [if_pos h]
      refine .inr ⟨rfl, by simp, ?_⟩
      rw [Int.toNat_natCast]
      unfold enc
      rw [if_neg (by decide), if_pos rfl, if_pos (rep_alike _ _ (by omega))]
      obtain ⟨x, rfl⟩ := List.length_eq_one_iff.1 h.1
      obtain ⟨m, rfl⟩ : ∃ m, n = m + 1 := ⟨n - 1, by omega⟩
      simp [List.replicate_succ]
    · rw [if_neg h]; exact .inl rfl

set_option maxRecDepth 100000 in
set_option maxHeartbeats 400000 in
theorem back_long (one : Bool) (n c : Nat) (A : Option Addr) (l : Nat) (w : World) (hn : 300 < l) :
    Calls Try.prog 5 #[.bool one, .slice A l c, .int .u8 (n : Int)] w fun e w' => e = .returned (.bool true) ∧ Below w.heap.size w w' := by
  go_enter Try.func5, Try.ntmps5
  go_wp2_with (go_at_call 12; refine (awake_any _).mono ?_; rintro e w1 ⟨rfl, hb1⟩)
  go_ret
  exact ⟨rfl, hb1⟩
set_option maxRecDepth 100000 in
set_option maxHeartbeats 1000000 in
theorem back_short (one : Bool) (k : Int) (n c : Nat) (A : Option Addr) (bs : List Nat) (w : World) (hr : RB w A bs) (hn : bs.length ≤ 300) (hn8 : n < 256) (hk : (one = false ∧ k = 0) ∨ (one = true ∧ k = 1)) :
    Calls Try.prog 5 #[.bool one, .slice A bs.length c, .int .u8 (n : Int)] w fun e w' => e = .returned (.bool true) ∧ Below w.heap.size w w' := by
  have HR := Aside0.mk hr
  have hk' : k = 0 ∨ k = 1 := by rcases hk with ⟨_, h⟩ | ⟨_, h⟩ <;> omega
  have H1 := Aside0.mk (fun xs h => enc_dec k bs xs hk' (by omega) h)
  have H2 := Aside0.mk (dec_enc k bs n hk' (by omega))
  clear hr hk'
  rcases hk with ⟨rfl, rfl⟩ | ⟨rfl, rfl⟩
  all_goals
    go_enter Try.func5, Try.ntmps5
    go_wp2_with (go_at_call 12; refine (awake_any _).mono ?_; rintro e w1 ⟨rfl, hb1⟩)
    refine (encode_any w1 _ A c bs (HR.out.below hb1) (by omega)).mono ?_
    rintro e w2 ⟨v, rfl, ho, hb2⟩
    have hb2' := below_then hb1 hb1.size hb2
    have O2 := Aside0.mk ho
    clear ho hb2 hb1
    rcases henc : enc _ bs with _ | xs
    all_goals rw [henc] at O2
    · rw [show errOf none = 1 from rfl]
      clear henc H1
      go_wp2_with fail
      have hdn := H2.out
      clear H2
      refine (decode_any w2 _ (n : Int) A c bs (HR.out.below hb2') (by omega) (by omega)).mono ?_
      rintro e w5 ⟨vy, rfl, hoy, hb5⟩
      have hb5' := below_then hb2' hb2'.size hb5
      rcases hdn with hdn | ⟨hd1, hd2, hd3⟩
      · rw [hdn]
        rw [hdn] at hoy
        obtain ⟨Ay, cy, rfl, -⟩ := hoy.reads
        clear hoy hb5 hdn
        go_wp2_with fail
        go_ret
        exact ⟨rfl, hb5'⟩
      · rw [hd1]
        obtain ⟨Ay, cy, rfl, qy⟩ := hoy.reads
        have QY := Aside0.mk qy
        have HD3 := Aside0.mk hd3
        rw [hd2]
        have HD2 := Aside0.mk hd2
        clear hoy hb5 hd1 hd3 qy
        generalize (dec _ bs (n : Int)).2 = ys at *
        go_wp2_with fail
        rw [← hd2]
        refine (encode_any w5 _ Ay cy ys QY.out (by omega)).mono ?_
        rintro e w6 ⟨vz, rfl, hoz, hb6⟩
        rw [HD3.out] at hoz ⊢
        have hb6' := below_then hb5' hb5'.size hb6
        have hoz' : OB w6 w5.heap.size 5 vz bs := hoz
        obtain ⟨Az, cz, rfl, qz⟩ := hoz'.reads
        have QZ := Aside0.mk qz
        have HR6 := Aside0.mk (HR.out.below hb6')
        rw [show errOf (some bs) = 0 from rfl, HD2.out]
        clear hoz hoz' qz hb6 hd2
        go_wp2_with fail
        refine (same_any w6 Az A cz c bs bs QZ.out HR6.out).mono ?_
        rintro e w7 ⟨rfl, rfl⟩
        rw [beq_self_eq_true]
        go_wp2_with fail
        go_ret
        exact ⟨rfl, hb6'⟩
    · rw [show errOf (some xs) = 0 from rfl]
      have hed := H1.out xs henc
      have O2' : Aside0 (OB w2 _ 5 v xs) := ⟨O2.out⟩
      obtain ⟨Av, cv, rfl, q⟩ := O2'.out.reads
      have Q := Aside0.mk q
      clear henc H1 q O2 O2'
      go_wp2_with fail
      refine (decode_any w2 _ (bs.length : Int) Av cv xs Q.out hed.2 (by omega)).mono ?_
      rintro e w3 ⟨v3, rfl, ho3, hb3⟩
      rw [hed.1] at ho3 ⊢
      have ho3' : OB w3 w2.heap.size 5 v3 bs := ho3
      obtain ⟨A3, c3, rfl, q3⟩ := ho3'.reads
      have Q3 := Aside0.mk q3
      have hb3' := below_then hb2' hb2'.size hb3
      have HR3 := Aside0.mk (HR.out.below hb3')
      clear ho3 ho3' q3 hb3 hed hb2'
      go_wp2_with fail
      refine (same_any w3 A3 A c3 c bs bs Q3.out HR3.out).mono ?_
      rintro e w4 ⟨rfl, rfl⟩
      rw [beq_self_eq_true]
      go_wp2_with fail
      have hdn := H2.out
      clear H2
      refine (decode_any w3 _ (n : Int) A c bs (HR.out.below hb3') (by omega) (by omega)).mono ?_
      rintro e w5 ⟨vy, rfl, hoy, hb5⟩
      have hb5' := below_then hb3' hb3'.size hb5
      rcases hdn with hdn | ⟨hd1, hd2, hd3⟩
      · rw [hdn]
        rw [hdn] at hoy
        obtain ⟨Ay, cy, rfl, -⟩ := hoy.reads
        clear hoy hb5 hdn
        go_wp2_with fail
        go_ret
        exact ⟨rfl, hb5'⟩
      · rw [hd1]
        obtain ⟨Ay, cy, rfl, qy⟩ := hoy.reads
        have QY := Aside0.mk qy
        have HD3 := Aside0.mk hd3
        rw [hd2]
        have HD2 := Aside0.mk hd2
        clear hoy hb5 hd1 hd3 qy
        generalize (dec _ bs (n : Int)).2 = ys at *
        go_wp2_with fail
        rw [← hd2]
        refine (encode_any w5 _ Ay cy ys QY.out (by omega)).mono ?_
        rintro e w6 ⟨vz, rfl, hoz, hb6⟩
        rw [HD3.out] at hoz ⊢
        have hb6' := below_then hb5' hb5'.size hb6
        have hoz' : OB w6 w5.heap.size 5 vz bs := hoz
        obtain ⟨Az, cz, rfl, qz⟩ := hoz'.reads
        have QZ := Aside0.mk qz
        have HR6 := Aside0.mk (HR.out.below hb6')
        rw [show errOf (some bs) = 0 from rfl, HD2.out]
        clear hoz hoz' qz hb6 hd2
        go_wp2_with fail
        refine (same_any w6 Az A cz c bs bs QZ.out HR6.out).mono ?_
        rintro e w7 ⟨rfl, rfl⟩
        rw [beq_self_eq_true]
        go_wp2_with fail
        go_ret
        exact ⟨rfl, hb6'⟩
theorem back_walk (a0 : Bool) (a1 : Option Addr) (len1 cap1 : Nat) (z1 : List Int) (a2 : Int) (w : World) (w1 : IsRow .u8 w a1 len1 cap1 z1) (_y1 : len1 * 1 ≤ 140737488351232) (w2 : (Lit.int .u8 a2).wf = true) :
    Calls Try.prog 5 #[.bool a0, .slice a1 len1 cap1, .int .u8 a2] w fun e w' => e = .returned (.bool true) ∧ Below w.heap.size w w' := by
  obtain ⟨bs, rfl, hr, _⟩ := RB.of_row w1
  have h2 := u8_range w2
  obtain ⟨n, rfl⟩ := Int.eq_ofNat_of_zero_le h2.1
  rcases Nat.lt_or_ge 300 bs.length with h | h
  · exact back_long a0 n cap1 a1 _ w h
  · cases a0
    · exact back_short false 0 n cap1 a1 bs w hr h (by omega) (.inl ⟨rfl, rfl⟩)
    · exact back_short true 1 n cap1 a1 bs w hr h (by omega) (.inr ⟨rfl, rfl⟩)
end Go.Proofs.Ytdgomddbppgkmaa.Plain
