/- Proved here: what the references Ints, Has and Take of directories compute. Conditions: each theorem's own. -/
import Derived.Test.YtdgomddbppgkmaaDirTwo
import Derived.Test.YtdgomddbppgkmaaDirPutR
namespace Go.Proofs.Ytdgomddbppgkmaa.Dir
open Go.RowKit Go.Proofs.YtdgomddbppgkmaaW.PrintWords Go.Proofs.Ytdgomddbppgkmaa.CrcM Go.Proofs.Ytdgomddbppgkmaa.BitsM Go.Proofs.Ytdgomddbppgkmaa.Base Go.Proofs.Ytdgomddbppgkmaa.Bitw Go.Proofs.Ytdgomddbppgkmaa.DirM

theorem ext_from (xs ys : List Int) (hl : xs.length = ys.length) (h : ∀ i, i < xs.length → xs.getD i 0 = ys.getD i 0) : xs = ys := by
  apply List.ext_getElem hl
  intro i h1 h2
  have h3 := h i h1
  rw [List.getD_eq_getElem?_getD, List.getD_eq_getElem?_getD, List.getElem?_eq_getElem h1, List.getElem?_eq_getElem h2] at h3
  simpa using h3

set_option maxRecDepth 100000 in
set_option maxHeartbeats 1000000 in
theorem ints_any (w : World) (A B : Option Addr) (c d : Nat) (xs ys : List Int) (hx : RI w A xs) (hy : RI w B ys) (hn : xs.length ≤ 1000) :
    Calls Try.prog 23 #[.slice A xs.length c, .slice B ys.length d] w fun e w' => e = .returned (.bool (xs == ys)) ∧ Below w.heap.size w w' := by
  obtain ⟨b, hb⟩ : ∃ b, (xs == ys) = b := ⟨_, rfl⟩
  have HB := Aside0.mk hb
  have HX := Aside0.mk hx
  have HY := Aside0.mk hy
  rw [hb]
  clear hb hx hy
  by_cases hl : xs.length = ys.length
  · have HL := Aside0.mk hl
    have hli : ¬ ((xs.length : Int) ≠ (ys.length : Int)) := by omega
    rw [← hl]
    clear hl
    go_enter Try.func23, Try.ntmps23
    go_wp2_with fail
    go_loopw [5] (fun i wr => ∃ k : Nat, k ≤ xs.length ∧ i = .int .i64 k ∧ Aside0 ((∀ j, j < k → xs.getD j 0 = ys.getD j 0) ∧ Below w.heap.size w wr)) (fun i _ => xs.length - (intOf i).toNat)
    case atStart => exact ⟨0, by omega, rfl, ⟨fun j hj => by omega, Below.refl _ _⟩⟩
    case round =>
      obtain ⟨k, hk, rfl, HK⟩ := hrel
      by_cases hlt : k < xs.length
      · obtain ⟨a1, rfl, hc1⟩ := (HX.out.below HK.out.2).at_ k hlt
        obtain ⟨a2, rfl, hc2⟩ := (HY.out.below HK.out.2).at_ k (by rw [← HL.out]; exact hlt)
        obtain ⟨x, hx⟩ : ∃ x, xs.getD k 0 = x := ⟨_, rfl⟩
        obtain ⟨y, hy⟩ : ∃ y, ys.getD k 0 = y := ⟨_, rfl⟩
        rw [hx] at hc1
        rw [hy] at hc2
        have HXY := Aside0.mk (And.intro hx hy)
        clear hx hy
        by_cases hxy : x = y
        · subst hxy
          go_wp2_with fail
          go_quiet (fail)
          go_wp2_with fail
          go_roundw
          case rel =>
            exact ⟨k + 1, by omega, by go_num, ⟨fun j hj => by
              by_cases e : j = k
              · rw [e, HXY.out.1, HXY.out.2]
              · exact HK.out.1 j (by omega), below_q HK.out.2 _⟩⟩
          case measure => simp [intOf]; omega
        · have hbf : b = false := by
            rw [← HB.out, beq_eq_false_iff_ne]
            intro e
            exact hxy (by rw [← HXY.out.1, ← HXY.out.2, e])
          subst hbf
          go_wp2_with fail
          go_quiet (fail)
          go_wp2_with fail
          go_ret
          exact ⟨rfl, below_q HK.out.2 _⟩
      · obtain rfl : k = xs.length := by omega
        have hbt : b = true := by
          rw [← HB.out, beq_iff_eq]
          exact ext_from xs ys HL.out HK.out.1
        subst hbt
        go_wp2_with fail
        go_ret
        exact ⟨rfl, HK.out.2⟩
  · have hbf : b = false := by
      rw [← HB.out, beq_eq_false_iff_ne]
      intro e
      exact hl (by rw [e])
    subst hbf
    have hli : ((xs.length : Int) ≠ (ys.length : Int)) := by omega
    go_enter Try.func23, Try.ntmps23
    go_wp2_with fail
    go_ret
    exact ⟨rfl, Below.refl _ _⟩

theorem mem_onesTo (V n k : Nat) : k ∈ onesTo V n ↔ k < n ∧ tb V k = true := by
  simp [onesTo]
theorem take_getD (bs : List Nat) (n i : Nat) (h : i < n) : (bs.take n).getD i 0 = bs.getD i 0 := by
  rw [List.getD_eq_getElem?_getD, List.getD_eq_getElem?_getD, List.getElem?_take_of_lt h]
theorem hasV_nat (bs : List Nat) (hb : ∀ x ∈ bs, x < 256) (h32 : 32 ≤ bs.length) (X : Nat) (hX : X < 256) :
    hasV bs (X : Int) = (bs.getD (X / 8) 0 / 2 ^ (X % 8) % 2 == 1) := by
  have h1 : hasV bs (X : Int) = tb (val (bs.take 32)) X := by
    rw [Bool.eq_iff_iff]
    simp only [hasV, Bool.and_eq_true, decide_eq_true_eq, List.any_eq_true, onesOf, mem_onesTo]
    constructor
    · rintro ⟨_, k, ⟨_, hk⟩, e⟩
      have : k = X := by omega
      rw [← this]; exact hk
    · intro h
      exact ⟨h32, X, ⟨hX, h⟩, rfl⟩
  have h2 := bit_low (val (bs.take 32)) X ((bs.take 32).getD (X / 8) 0) (val_at _ _ (fun x hx => hb x (List.mem_of_mem_take hx)))
  rw [take_getD bs 32 (X / 8) (by omega)] at h2
  rw [h1, tb, h2]
theorem hasV_out (bs : List Nat) (x : Int) (h : bs.length < 32 ∨ x < 0 ∨ 255 < x) : hasV bs x = false := by
  rw [← Bool.not_eq_true]
  simp only [hasV, Bool.and_eq_true, decide_eq_true_eq, List.any_eq_true, onesOf, mem_onesTo]
  rintro ⟨h32, k, ⟨hk, _⟩, e⟩
  omega

theorem tmod_bit (y r : Nat) : (((y : Int) / 2 ^ r).tmod 2 == 1) = (y / 2 ^ r % 2 == 1) := by
  rw [div_pow_cast]
  generalize y / 2 ^ r = q
  rw [Int.tmod_eq_emod_of_nonneg (by omega), Bool.eq_iff_iff, beq_iff_eq, beq_iff_eq]
  omega

set_option maxRecDepth 100000 in
set_option maxHeartbeats 1000000 in
theorem rhas_any (w : World) (A : Option Addr) (c : Nat) (bs : List Nat) (x : Int) (hr : RB w A bs) :
    Calls Try.prog 25 #[.slice A bs.length c, .int .i64 x] w fun e w' => e = .returned (.bool (hasV bs x)) ∧ w' = w := by
  obtain ⟨b, hb⟩ : ∃ b, hasV bs x = b := ⟨_, rfl⟩
  have HB := Aside0.mk hb
  have HR := Aside0.mk hr
  rw [hb]
  clear hb hr
  by_cases h32 : bs.length < 32
  · have hbf : b = false := by rw [← HB.out]; exact hasV_out bs x (.inl h32)
    subst hbf
    have hd : decide ((bs.length : Int) < 32) = true := by simp; omega
    go_enter Try.func25, Try.ntmps25
    go_wp2_with fail
    go_ret
    exact ⟨rfl, rfl⟩
  have hd : decide ((bs.length : Int) < 32) = false := by simp; omega
  by_cases hx0 : x < 0
  · have hbf : b = false := by rw [← HB.out]; exact hasV_out bs x (.inr (.inl hx0))
    subst hbf
    have hd1 : decide (x < 0) = true := by simpa using hx0
    go_enter Try.func25, Try.ntmps25
    go_wp2_with fail
    go_ret
    exact ⟨rfl, rfl⟩
  have hd1 : decide (x < 0) = false := by simpa using hx0
  by_cases hx1 : 255 < x
  · have hbf : b = false := by rw [← HB.out]; exact hasV_out bs x (.inr (.inr hx1))
    subst hbf
    have hd2 : decide (255 < x) = true := by simpa using hx1
    go_enter Try.func25, Try.ntmps25
    go_wp2_with fail
    go_ret
    exact ⟨rfl, rfl⟩
  have hd2 : decide (255 < x) = false := by simpa using hx1
  obtain ⟨X, hX⟩ : ∃ X : Nat, x = X := ⟨x.toNat, by omega⟩
  subst hX
  have hXl : X < 256 := by omega
  obtain ⟨ad, rfl, hc⟩ := HR.out.at_ (X / 8) (by omega)
  have hv := hasV_nat bs HR.out.1 (by omega) X hXl
  have hy8 := HR.out.lt (X / 8)
  generalize bs.getD (X / 8) 0 = y at *
  have HV := Aside0.mk hv
  clear hv
  have e1 : X / 8 < bs.length := by omega
  go_enter Try.func25, Try.ntmps25
  go_wp2_with fail
  go_ret
  refine ⟨ret_bool ?_, rfl⟩
  rw [← HB.out, HV.out, tmod_bit]

/-- A row of ints of the call's own. -/
def NI (w : World) (base : Nat) (v : Value) (L : List Nat) : Prop := w.ownsRow base 3 1 v L.length (ni L)
theorem zl_len (L : List Nat) : (zl L).length = L.length := by simp [zl]
theorem ni_append {P : Program} {ops : Array Oper} {rest : List Oper} {o : Oper} {a : Act} {Q : Exit → Act → World → Prop} {w0 W : World} (base : Nat) (hgd : o.guard = none) (s x : Operand) (t : TypeId)
    (ho : o.op = .call { callee := .builtin .append, args := #[s, x], argTypes := #[t, t] })
    (ht : P.underlying t = some (.slice 3)) (hinfo : (P.info? 3).map (fun i => (i.zero, i.size, i.bytes)) = some (some (.int .i64 0), 1, 8))
    (v : Value) (L : List Nat) (y : Nat) (hs : a.eval s = v) (hx : a.eval x = .slice (some ⟨W.heap.size, 0, none⟩) 1 1)
    (HO : NI W base v L) (HB : Below base w0 W) (hbase : base ≤ W.heap.size) (hl : L.length ≤ 1000000)
    (h : ∀ v1 w1, NI w1 base v1 (L ++ [y]) → Below base w0 w1 → W.grownBy w1 v.ownBlock → wpList P ops Q rest (a.put o.dst v1) w1) :
    wpList P ops Q (o :: rest) a (W.alloc (.cells #[.int .i64 (y : Int)] 3)) := by
  refine print_append_num base hgd s x t 3 .i64 8 ho ht hinfo (by decide) v (zl L) y hs hx (by rw [zl_len]; exact HO) HB hbase (by rw [zl_len]; omega) ?_
  intro v1 w1 hown hb hg _
  refine h v1 w1 ?_ hb hg
  have e : zl L ++ [(y : Int)] = zl (L ++ [y]) := by simp [zl]
  rw [e, zl_len] at hown
  exact hown
theorem NI.reads {w : World} {base : Nat} {v : Value} {L : List Nat} (h : NI w base v L) : ∃ A c, v = .slice A L.length c ∧ RI w A (zl L) := by
  have h' : w.ownsRow base 3 1 v L.length (nums .i64 (zl L)) := h
  obtain ⟨A, c, e, hr⟩ := own_reads h'
  exact ⟨A, c, e, by rw [RI, zl_len]; exact hr⟩
theorem head_ones (V n : Nat) : (onesTo V (n + 1)).head? = some 0 ↔ tb V 0 = true := by
  rw [onesTo, List.range_succ_eq_map, List.filter_cons]
  by_cases h : tb V 0 = true
  · simp [h]
  · rw [if_neg h]
    constructor
    · intro h2
      have := List.mem_of_mem_head? h2
      have := (List.mem_filter.1 this).1
      simp at this
    · intro h2; exact absurd h2 h
theorem hasV_tb (bs : List Nat) (h32 : 32 ≤ bs.length) (X : Nat) (hX : X < 256) : hasV bs (X : Int) = tb (val (bs.take 32)) X := by
  rw [Bool.eq_iff_iff]
  simp only [hasV, Bool.and_eq_true, decide_eq_true_eq, List.any_eq_true, onesOf, mem_onesTo]
  constructor
  · rintro ⟨_, k, ⟨_, hk⟩, e⟩
    have : k = X := by omega
    rw [← this]; exact hk
  · intro h
    exact ⟨h32, X, ⟨hX, h⟩, rfl⟩

set_option maxRecDepth 100000 in
set_option maxHeartbeats 1000000 in
theorem rtake_any (w : World) (A : Option Addr) (c : Nat) (bs : List Nat) (hr : RB w A bs) :
    Calls Try.prog 22 #[.slice A bs.length c] w fun e w' => ∃ v, e = .returned (.tuple #[v, .int .i64 (takeE bs : Int)]) ∧ w'.ownsRow w.heap.size 3 1 v (takeL bs).length (ni (takeL bs)) ∧ Below w.heap.size w w' := by
  obtain ⟨E, hE⟩ : ∃ E, takeE bs = E := ⟨_, rfl⟩
  obtain ⟨L, hL⟩ : ∃ L, takeL bs = L := ⟨_, rfl⟩
  have HE := Aside0.mk (And.intro hE hL)
  have HR := Aside0.mk hr
  rw [hE, hL]
  clear hE hL hr
  by_cases h32 : bs.length < 32
  · obtain rfl : E = 3 := by rw [← HE.out.1, takeE, if_pos h32]
    obtain rfl : L = [] := by rw [← HE.out.2, takeL, if_pos h32]
    go_enter Try.func22, Try.ntmps22
    go_wp2_with fail
    go_ret2
    exact ⟨_, rfl, nil_row _ _, Below.refl _ _⟩
  · have hlt : ¬ ((bs.length : Int) < 32) := by omega
    have hh : ∀ X : Nat, X < 256 → hasV bs (X : Int) = tb (val (bs.take 32)) X := fun X hX => hasV_tb bs (by omega) X hX
    have hE : E = if tb (val (bs.take 32)) 0 = true then 0 else 13 := by
      rw [← HE.out.1, takeE, if_neg h32, onesOf]; simp only [head_ones]
    have hL : L = if tb (val (bs.take 32)) 0 = true then onesTo (val (bs.take 32)) 256 else [] := by
      rw [← HE.out.2, takeL, if_neg h32, onesOf]; simp only [head_ones]
    generalize val (bs.take 32) = V at *
    have HH := Aside0.mk hh
    clear hh
    by_cases hb0 : tb V 0 = true
    · rw [if_pos hb0] at hE hL
      subst hE hL
      have HB0 := Aside0.mk hb0
      clear hb0
      go_enter Try.func22, Try.ntmps22
      go_wp2_with fail
      refine (rhas_any w A c bs 0 HR.out).mono ?_
      rintro e w' ⟨rfl, rfl⟩
      rw [show hasV bs 0 = true from (HH.out 0 (by omega)).trans HB0.out]
      go_wp2_with fail
      go_loopw [6, 5] (fun i v wr => ∃ k : Nat, k ≤ 256 ∧ i = .int .i64 k ∧ Aside0 (wr.ownsRow w'.heap.size 3 1 v (onesTo V k).length (ni (onesTo V k)) ∧ Below w'.heap.size w' wr)) (fun i _ _ => 256 - (intOf i).toNat)
      case atStart => exact ⟨0, by omega, rfl, ⟨nil_row _ _, Below.refl _ _⟩⟩
      case round =>
        obtain ⟨k, hk, rfl, HK⟩ := hrel
        by_cases hk6 : k < 256
        · go_wp2_with fail
          refine (rhas_any wr A c bs (k : Int) (HR.out.below HK.out.2)).mono ?_
          rintro e w2 ⟨rfl, rfl⟩
          rw [HH.out k hk6]
          have hsz := HK.out.2.size
          have hlen := onesTo_len V k
          have hs := onesTo_succ V k
          by_cases hbk : tb V k = true
          · rw [hbk]
            rw [if_pos hbk] at hs
            have HS := Aside0.mk hs
            clear hs hbk
            go_wp2_with (at_builtin; refine ni_append (w0 := w') w'.heap.size rfl (.tmp 23) (.tmp 25) 33 rfl Try.underlying33 info_int _ (onesTo V k) k rfl rfl HK.out.1 HK.out.2 hsz (by omega) ?_; intro v1 w3 hown1 hbel1 hgr1; have HO1 := Aside0.mk (And.intro hown1 hbel1); clear hown1 hbel1 hgr1)
            go_roundw
            case rel => exact ⟨k + 1, by omega, by go_num, ⟨by rw [HS.out]; exact HO1.out.1, HO1.out.2⟩⟩
            case measure => simp [intOf]; omega
          · have hbf : tb V k = false := by simpa using hbk
            rw [hbf]
            rw [if_neg hbk, List.append_nil] at hs
            have HS := Aside0.mk hs
            clear hs hbk hbf
            go_wp2_with fail
            go_roundw
            case rel => exact ⟨k + 1, by omega, by go_num, ⟨by rw [HS.out]; exact HK.out.1, HK.out.2⟩⟩
            case measure => simp [intOf]; omega
        · obtain rfl : k = 256 := by omega
          go_wp2_with fail
          go_ret2
          exact ⟨_, rfl, HK.out.1, HK.out.2⟩
    · rw [if_neg hb0] at hE hL
      subst hE hL
      have HB0 := Aside0.mk hb0
      clear hb0
      go_enter Try.func22, Try.ntmps22
      go_wp2_with fail
      refine (rhas_any w A c bs 0 HR.out).mono ?_
      rintro e w' ⟨rfl, rfl⟩
      rw [show hasV bs 0 = false from (HH.out 0 (by omega)).trans (by simpa using HB0.out)]
      go_wp2_with fail
      go_ret2
      exact ⟨_, rfl, nil_row _ _, Below.refl _ _⟩
end Go.Proofs.Ytdgomddbppgkmaa.Dir
