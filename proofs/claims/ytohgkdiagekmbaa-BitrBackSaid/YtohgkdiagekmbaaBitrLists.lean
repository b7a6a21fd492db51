/- Proved here: what the reference's functions on lists of bits do (packages puncheonref01, puncheonref02), for the reader's laws. Conditions: each theorem's own. -/
import Derived.Test.YtohgkdiagekmbaaBitrLaws
import Derived.Test.YtohgkdiagekmbaaBitsLists
namespace Go.Proofs.Ytohgkdiagekmbaa.Bitr
open Go.RowKit Go.Proofs.YtohgkdiagekmbaaW.PrintWords Go.Proofs.Ytohgkdiagekmbaa.CrcM Go.Proofs.Ytohgkdiagekmbaa.BitsM Go.Proofs.Ytohgkdiagekmbaa.Base Go.Proofs.Ytohgkdiagekmbaa.Bitw

/-! plain -/
theorem bitsOf_take (V k : Nat) : ∀ L, k ≤ L → (bitsOf V L).take k = bitsOf V k
  | 0, h => by obtain rfl : k = 0 := by omega
               rfl
  | L + 1, h => by
    rcases Nat.lt_or_ge L k with hk | hk
    · obtain rfl : k = L + 1 := by omega
      rw [List.take_of_length_le (by rw [bitsOf_length]; omega)]
    · rw [bitsOf, List.take_append_of_le_length (by rw [bitsOf_length]; exact hk)]
      exact bitsOf_take V k L hk
theorem cut_mod' (v C K : Nat) (h : C ≤ K) : v % 2 ^ C + 2 ^ C * (v / 2 ^ C % 2 ^ (K - C)) = v % 2 ^ K := by
  have e : 2 ^ K = 2 ^ C * 2 ^ (K - C) := by rw [← Nat.pow_add]; congr 1; omega
  rw [e, Nat.mod_mul]
theorem numL_drop (V L k : Nat) (h : k ≤ L) : numL ((bitsOf V L).drop k) = V / 2 ^ k % 2 ^ (L - k) := by
  have h1 := numL_append ((bitsOf V L).take k) ((bitsOf V L).drop k)
  rw [List.take_append_drop, bitsOf_take V k L h, numL_bitsOf, numL_bitsOf, bitsOf_length] at h1
  have h2 := cut_mod' V k L h
  have hp := Nat.two_pow_pos k
  have h3 : 2 ^ k * numL ((bitsOf V L).drop k) = 2 ^ k * (V / 2 ^ k % 2 ^ (L - k)) := by omega
  exact Nat.eq_of_mul_eq_mul_left hp h3
theorem bitsOf_get (V L i : Nat) (h : i < L) : (bitsOf V L).getD i false = tb V i := by
  have h1 := bitsOf_take V (i + 1) L h
  have h2 : ((bitsOf V L).take (i + 1)).getD i false = (bitsOf V L).getD i false := by
    simp [List.getD_eq_getElem?_getD]
  rw [← h2, h1, bitsOf, List.getD_eq_getElem?_getD, List.getElem?_append_right (by rw [bitsOf_length]; exact Nat.le_refl _)]
  simp [bitsOf_length]
theorem bit_ref (V i k x : Nat) (hk : k < 8) (hx : x < 256) (h : x = V / 2 ^ (8 * i) % 256) : (bits .and .u8 ((x : Int) / 2 ^ k) 1 == 1) = tb V (8 * i + k) := by
  have h1 := bit_low V (8 * i + k) x (by rw [show (8 * i + k) / 8 = i by omega]; exact h)
  rw [show (8 * i + k) % 8 = k by omega] at h1
  unfold tb
  rw [h1, div_pow_cast]
  have hq : x / 2 ^ k < 256 := Nat.lt_of_le_of_lt (Nat.div_le_self _ _) hx
  generalize x / 2 ^ k = y at *
  have e := u8_and_nat y 1 (by omega) (by omega)
  rw [Nat.and_one_is_mod] at e
  have e' : bits .and .u8 (y : Int) 1 = ((y % 2 : Nat) : Int) := e
  rw [e']
  rcases (show y % 2 = 0 ∨ y % 2 = 1 by omega) with h | h <;> rw [h] <;> rfl
theorem tb_high (V m j : Nat) (h : V < 2 ^ (m + 1)) (hj : m < j) : tb V j = false := by
  have : 2 ^ (m + 1) ≤ 2 ^ j := Nat.pow_le_pow_right (by omega) hj
  unfold tb
  rw [Nat.div_eq_of_lt (by omega)]
  rfl
theorem tb_top (V m : Nat) (h : 2 ^ m ≤ V) (h2 : V < 2 ^ (m + 1)) : tb V m = true := by
  have h3 : V / 2 ^ m = 1 := by
    rw [Nat.pow_succ] at h2
    exact Nat.div_eq_of_lt_le (by omega) (by omega)
  unfold tb
  rw [h3]
  rfl
theorem OL.take {w : World} {base n cap : Nat} {v : Value} {l : List Bool} (h : OL w base v l) (k : Nat) (hk : k ≤ l.length) (g : Nat) (hv : v = .slice (some ⟨g, 0, none⟩) n cap) : OL w base (.slice (some ⟨g, 0, none⟩) k cap) (l.take k) := by
  have hl : (l.take k).length = k := by rw [List.length_take]; omega
  refine ⟨by simp [encs], ?_⟩
  rcases h.2 with hn | ⟨g', cap', cur, e, hb, hgg, h1, h2, h3, h4⟩
  · rw [hv] at hn; cases hn.1
  · rw [hv] at e
    injection e with e1 e2 e3
    injection e1 with e1
    injection e1 with e1
    subst e1 e3
    refine .inr ⟨g, cap, cur, by rw [hl], hb, hgg, by omega, h2, h3, ?_⟩
    rw [hl, Nat.mul_one]
    rw [Nat.mul_one] at h4
    have := congrArg (List.take k) h4
    rw [List.take_take, Nat.min_eq_left hk] at this
    rw [this]
    simp [encs, List.map_take]

set_option maxRecDepth 100000 in
set_option maxHeartbeats 1000000 in
theorem refbits_any (w : World) (A : Option Addr) (c : Nat) (bs : List Nat) (hr : RB w A bs) (hl : bs.length ≤ 10000) :
    Calls Try.prog 31 #[.slice A bs.length c] w fun e w' => ∃ r, e = .returned r ∧ OL w' w.heap.size r (bitsOf (val bs) (8 * bs.length)) ∧ Below w.heap.size w w' := by
  have HR := Aside0.mk hr
  clear hr
  go_enter Try.func31, Try.ntmps31
  go_wp2_with fail
  go_loopw [3, 4] (fun v i wr => ∃ k : Nat, k ≤ bs.length ∧ i = .int .i64 k ∧ Aside0 (OL wr w.heap.size v (bitsOf (val bs) (8 * k))) ∧ Below w.heap.size w wr) (fun _ i _ => bs.length - (intOf i).toNat)
  case atStart => exact ⟨0, by omega, rfl, ⟨OL.nil w _⟩, Below.refl _ _⟩
  case round =>
    obtain ⟨k, hk, rfl, HO, hbr⟩ := hrel
    by_cases hlt : k < bs.length
    · obtain ⟨ad, rfl, hc⟩ := (HR.out.below hbr).at_ k hlt
      have hx8 := HR.out.lt k
      have HV := Aside0.mk (val_at bs k HR.out.1)
      go_wp2_with fail
      go_loopw [3, 5] (fun v i ws => ∃ j : Nat, j ≤ 8 ∧ i = .int .i64 j ∧ Aside0 (OL ws w.heap.size v (bitsOf (val bs) (8 * k + j))) ∧ Below w.heap.size w ws) (fun _ i _ => 8 - (intOf i).toNat)
      case atStart => exact ⟨0, by omega, rfl, HO, hbr⟩
      case round =>
        obtain ⟨j, hj, rfl, HI, hbs⟩ := hrel
        have hcs : wr.cell? (ad.add k) = some (.int .u8 ((bs.getD k 0 : Nat) : Int)) := by
          obtain ⟨ad', e, h⟩ := (HR.out.below hbs).at_ k hlt
          injection e with e
          rw [e]; exact h
        by_cases hjl : j < 8
        · have hbit := bit_ref (val bs) k j (bs.getD k 0) hjl hx8 HV.out
          have HE := Aside0.mk (show bitsOf (val bs) (8 * k + (j + 1)) = bitsOf (val bs) (8 * k + j) ++ [tb (val bs) (8 * k + j)] from rfl)
          have hbl : (bitsOf (val bs) (8 * k + j)).length ≤ 100000 := by rw [bitsOf_length]; omega
          generalize tb (val bs) (8 * k + j) = T at *
          generalize bitsOf (val bs) (8 * k + j) = cs at *
          generalize bs.getD k 0 = x at *
          go_wp2_with (at_builtin; refine print_append_of (w0 := wr) Value.bool w.heap.size rfl (.tmp 16) (.tmp 25) 29 4 (.bool false) 1 rfl Try.underlying29 info_bool rfl (by decide) u3 cs T rfl rfl rfl HI.out (Below.refl _ _) hbs.size (by omega) ?_; intro v1 w2 hown2 hbel2 hgr2 hat2)
          have R1 := Aside0.mk (show OL w2 w.heap.size v1 (bitsOf (val bs) (8 * k + (j + 1))) by rw [HE.out]; exact hown2)
          have hbr2 := hbs.trans hbel2
          clear hown2 hgr2 hat2 hbel2
          go_roundw
          case rel => exact ⟨j + 1, by omega, by go_num, R1, hbr2⟩
          case measure => simp [intOf]; omega
        · obtain rfl : j = 8 := by omega
          go_wp2_with fail
          go_roundw
          case rel => exact ⟨k + 1, by omega, by go_num, HI, hbs⟩
          case measure => simp [intOf]; omega
    · obtain rfl : k = bs.length := by omega
      go_wp2_with fail
      go_ret
      exact ⟨_, rfl, HO.out, hbr⟩
set_option maxRecDepth 100000 in
set_option maxHeartbeats 1000000 in
theorem refnumber_any (w : World) (A : Option Addr) (c : Nat) (l : List Bool) (hr : RL w A l) (hl : l.length ≤ 24) :
    Calls Try.prog 33 #[.slice A l.length c] w fun e w' => e = .returned (.int .u32 ((numL l : Nat) : Int)) ∧ w = w' := by
  have HR := Aside0.mk hr
  clear hr
  go_enter Try.func33, Try.ntmps33
  go_wp2_with fail
  go_loopw [3, 4] (fun v i wr => ∃ k : Nat, k ≤ l.length ∧ i = .int .i64 ((k : Int) - 1) ∧ v = .int .u32 ((numL (l.drop k) : Nat) : Int) ∧ w = wr) (fun _ i _ => (intOf i + 1).toNat)
  case atStart => exact ⟨l.length, by omega, rfl, by simp [numL], rfl⟩
  case round =>
    obtain ⟨k, hk, rfl, rfl, rfl⟩ := hrel
    rcases Nat.eq_zero_or_pos k with h0 | h0
    · subst h0
      go_wp2_with fail
      go_ret
      exact ⟨rfl, rfl⟩
    · obtain ⟨j, rfl⟩ : ∃ j, k = j + 1 := ⟨k - 1, by omega⟩
      obtain ⟨ad, rfl, hc⟩ := HR.out.at_ j (by omega)
      have ej : (((j + 1 : Nat) : Int) - 1) = (j : Int) := by omega
      rw [ej]
      have hd : numL (l.drop j) = (l.getD j false).toNat + 2 * numL (l.drop (j + 1)) := by
        rw [List.drop_eq_getElem_cons (by omega : j < l.length), numL, List.getD_eq_getElem?_getD, List.getElem?_eq_getElem (by omega)]
        rfl
      have hlt := numL_lt (l.drop (j + 1))
      rw [List.length_drop] at hlt
      have hlt2 : 2 ^ (l.length - (j + 1)) ≤ 2 ^ 23 := Nat.pow_le_pow_right (by omega) (by omega)
      have hX : numL (l.drop (j + 1)) < 8388608 := Nat.lt_of_lt_of_le hlt hlt2
      clear hlt hlt2
      have HD := Aside0.mk hd
      clear hd ej
      rcases hb : l.getD j false with _ | _
      · rw [hb] at hc HD
        have HD2 := Aside0.mk (show 2 * ((numL (l.drop (j + 1)) : Nat) : Int) = ((numL (l.drop j) : Nat) : Int) by have := HD.out; simp at this; omega)
        generalize numL (l.drop (j + 1)) = X at *
        go_wp2_with fail
        go_roundw
        case rel => exact ⟨j, by omega, by go_num, by rw [HD2.out], trivial⟩
        case measure => simp [intOf] <;> omega
      · rw [hb] at hc HD
        have HD2 := Aside0.mk (show 2 * ((numL (l.drop (j + 1)) : Nat) : Int) + 1 = ((numL (l.drop j) : Nat) : Int) by have := HD.out; simp at this; omega)
        generalize numL (l.drop (j + 1)) = X at *
        go_wp2_with fail
        go_roundw
        case rel => exact ⟨j, by omega, by go_num, by rw [HD2.out], trivial⟩
        case measure => simp [intOf] <;> omega
theorem RL.drewN {w : World} {A : Option Addr} {l : List Bool} (h : RL w A l) (q : Nat) : RL (w.drewN q) A l := h
theorem refnum_len (w : World) (A : Option Addr) (c n : Nat) (l : List Bool) (hr : RL w A l) (hn : l.length = n) (hl : n ≤ 24) :
    Calls Try.prog 33 #[.slice A n c] w fun e w' => e = .returned (.int .u32 ((numL l : Nat) : Int)) ∧ w' = w := by
  subst hn
  exact (refnumber_any w A c l hr hl).mono fun _ _ h => ⟨h.1, h.2.symm⟩

theorem lft_top (bs : List Nat) (hb : ∀ b ∈ bs, b < 256) (hm : Marked bs) : 2 ^ lft bs ≤ val bs ∧ val bs < 2 ^ (lft bs + 1) ∧ lft bs < 8 * bs.length := by
  have h := top bs hb hm.1 hm.2
  have h0 := hm.1
  unfold lft
  refine ⟨h.1, ?_, by omega⟩
  rw [show 8 * (bs.length - 1) + len8 (bs.getD (bs.length - 1) 0) - 1 + 1 = 8 * (bs.length - 1) + len8 (bs.getD (bs.length - 1) 0) by omega]
  exact h.2.1
set_option maxRecDepth 100000 in
set_option maxHeartbeats 1000000 in
theorem refopen_no (w : World) (A : Option Addr) (c : Nat) (bs : List Nat) (hr : RB w A bs) (hl : bs.length ≤ 10000) (hm : ¬ Marked bs) :
    Calls Try.prog 15 #[.slice A bs.length c] w fun e w' => e = .returned (.tuple #[.slice none 0 0, .int .i64 2]) ∧ w = w' := by
  rcases Nat.eq_zero_or_pos bs.length with h0 | h0
  · rw [h0]
    clear hr hm hl h0
    go_enter Try.func15, Try.ntmps15
    go_wp2_with fail
    go_ret2
    exact ⟨rfl, rfl⟩
  · have hz : bs.getD (bs.length - 1) 0 = 0 := by
      rcases Nat.eq_zero_or_pos (bs.getD (bs.length - 1) 0) with h | h
      · exact h
      · exact absurd ⟨h0, by omega⟩ hm
    obtain ⟨ad, rfl, hc⟩ := hr.at_ (bs.length - 1) (by omega)
    rw [hz] at hc
    clear hz hm hr
    obtain ⟨n, hN⟩ : ∃ n, bs.length = n + 1 := ⟨bs.length - 1, by omega⟩
    rw [hN] at hc hl ⊢
    clear hN h0
    have h0 : (((n + 1 : Nat) : Int) == 0) = false := by rw [beq_eq_false_iff_ne]; omega
    have hc' : w.cell? (ad.add n) = some (.int .u8 0) := hc
    clear hc
    go_enter Try.func15, Try.ntmps15
    go_wp2_with fail
    go_ret2
    exact ⟨rfl, rfl⟩
set_option maxRecDepth 100000 in
set_option maxHeartbeats 1000000 in
theorem refopen_yes (w : World) (A : Option Addr) (c : Nat) (bs : List Nat) (hr : RB w A bs) (hl : bs.length ≤ 1000) (hm : Marked bs) :
    Calls Try.prog 15 #[.slice A bs.length c] w fun e w' => ∃ g cap, e = .returned (.tuple #[.slice (some ⟨g, 0, none⟩) (lft bs) cap, .int .i64 0]) ∧ OL w' w.heap.size (.slice (some ⟨g, 0, none⟩) (lft bs) cap) (bitsOf (val bs) (lft bs)) ∧ Below w.heap.size w w' := by
  have HR := Aside0.mk hr
  have HT := Aside0.mk (lft_top bs hr.1 hm)
  obtain ⟨ad, rfl, hc⟩ := hr.at_ (bs.length - 1) (by have := hm.1; omega)
  have hz := hm.2
  have h0 := hm.1
  clear hr hm
  generalize bs.getD (bs.length - 1) 0 = x at *
  obtain ⟨n, hN⟩ : ∃ n, bs.length = n + 1 := ⟨bs.length - 1, by omega⟩
  have HN := Aside0.mk hN
  rw [hN] at hc hl ⊢
  clear hN h0
  have h0 : (((n + 1 : Nat) : Int) == 0) = false := by rw [beq_eq_false_iff_ne]; omega
  have hx0 : ((x : Int) == 0) = false := by rw [beq_eq_false_iff_ne]; omega
  have hc' : w.cell? (ad.add n) = some (.int .u8 (x : Int)) := hc
  clear hc
  generalize lft bs = m at *
  go_enter Try.func15, Try.ntmps15
  go_wp2_with fail
  rw [← HN.out]
  refine (refbits_any w (some ad) c bs HR.out (by have := HN.out; omega)).mono ?_
  rintro e w1 ⟨r, rfl, ho, hb1⟩
  obtain ⟨g, cap, rfl, hg, hg'⟩ : ∃ g cap, r = .slice (some ⟨g, 0, none⟩) (8 * bs.length) cap ∧ w.heap.size ≤ g ∧ g < w1.heap.size := by
    obtain ⟨g, cap, h1, h2, h3⟩ := World.ownsRow.form ho (by rw [bitsOf_length]; have := HN.out; omega)
    rw [bitsOf_length] at h1
    exact ⟨g, cap, h1, h2, h3⟩
  have HO := Aside0.mk ho
  obtain ⟨A2, c2, he2, hq2⟩ := ho.reads
  injection he2 with hA2 hB2 hC2
  subst hA2 hC2
  have HQ := Aside0.mk hq2
  have hcap : 8 * n + 8 ≤ cap := by
    rcases HO.out.2 with hn | ⟨g', cap', cur, e, hb, hgg, h1, h2, h3, h4⟩
    · cases hn.1
    · injection e with e1 e2 e3
      have := HN.out
      omega
  clear ho hq2 hB2 hc' h0 hx0
  have h8 : 8 * bs.length = 8 * n + 8 := by have := HN.out; omega
  rw [h8] at HO ⊢
  have hT3 : m < 8 * n + 8 := by have := HT.out.2.2; omega
  go_wp2_with fail
  go_loopw [5] (fun i wr => ∃ j : Nat, m ≤ j ∧ j ≤ 8 * n + 7 ∧ i = .int .i64 j ∧ w1 = wr) (fun i _ => (intOf i).toNat)
  case atStart => exact ⟨8 * n + 7, by omega, by omega, by go_num, by first | rfl | trivial⟩
  case round =>
    obtain ⟨j, hj, hj7, rfl, rfl⟩ := hrel
    obtain ⟨ad2, ha2, hc2⟩ := HQ.out.at_ j (by rw [bitsOf_length]; omega)
    injection ha2 with ha2
    subst ha2
    rw [bitsOf_get _ _ _ (by omega)] at hc2
    have hc3 : w1.cell? ⟨g, j, none⟩ = some (.bool (tb (val bs) j)) := by rw [← hc2, add_plain]
    clear hc2
    by_cases hlt : m < j
    · rw [tb_high (val bs) m j HT.out.2.1 hlt] at hc3
      have ej : ((j : Int) - 1) = ((j - 1 : Nat) : Int) := by omega
      go_wp2_with fail
      go_roundw
      case rel => exact ⟨j - 1, by omega, by omega, by go_num, by first | rfl | trivial⟩
      case measure => simp [intOf] <;> omega
    · obtain rfl : m = j := by omega
      rw [tb_top (val bs) m HT.out.1 HT.out.2.1] at hc3
      have hmc : m ≤ cap := by omega
      have HF := Aside0.mk (OL.take HO.out m (by rw [bitsOf_length]; omega) g rfl)
      go_wp2_with fail
      go_ret2
      refine ⟨g, cap, rfl, ?_, hb1⟩
      have := HF.out
      rw [bitsOf_take _ _ _ (by omega)] at this
      exact this
set_option maxRecDepth 100000 in
set_option maxHeartbeats 1000000 in
theorem reftake_no (w : World) (A : Option Addr) (c L : Nat) (n : Int) (h : can L n = false) :
    Calls Try.prog 17 #[.slice A L c, .int .i64 n] w fun e w' => e = .returned (.tuple #[.slice A L c, .int .u32 0, .bool false]) ∧ w = w' := by
  have hn : n < 0 ∨ 24 < n ∨ (L : Int) < n := by
    have : ¬ (0 ≤ n ∧ n ≤ 24 ∧ n ≤ (L : Int)) := fun q => by rw [show can L n = true from decide_eq_true q] at h; cases h
    omega
  clear h
  by_cases h1 : n < 0
  · go_enter Try.func17, Try.ntmps17
    go_wp2_with fail
    go_ret3
    exact ⟨rfl, rfl⟩
  · by_cases h2 : 24 < n
    · go_enter Try.func17, Try.ntmps17
      go_wp2_with fail
      go_ret3
      exact ⟨rfl, rfl⟩
    · have h3 : (L : Int) < n := by omega
      clear hn
      go_enter Try.func17, Try.ntmps17
      go_wp2_with fail
      go_ret3
      exact ⟨rfl, rfl⟩
set_option maxRecDepth 100000 in
set_option maxHeartbeats 1000000 in
theorem reftake_yes (w : World) (B g c L n V : Nat) (ho : OL w B (.slice (some ⟨g, 0, none⟩) L c) (bitsOf V L)) (hn : n ≤ L) (h24 : n ≤ 24) (hL : L ≤ 10000) :
    Calls Try.prog 17 #[.slice (some ⟨g, 0, none⟩) L c, .int .i64 (n : Int)] w fun e w' => e = .returned (.tuple #[.slice (some ⟨g, 0, none⟩) (L - n) c, .int .u32 ((V / 2 ^ (L - n) % 2 ^ n : Nat) : Int), .bool true]) ∧ OL w' B (.slice (some ⟨g, 0, none⟩) (L - n) c) (bitsOf V (L - n)) ∧ Below w.heap.size w w' := by
  have HO := Aside0.mk ho
  clear ho
  have hdl : decide (L < n) = false := by rw [decide_eq_false_iff_not]; omega
  have ek : ((L : Int) - (n : Int)) = ((L - n : Nat) : Int) := by omega
  obtain ⟨A2, c2, he2, hq2⟩ := HO.out.reads
  injection he2 with hA2 hB2 hC2
  subst hA2 hC2
  have hL2 : L ≤ c := by
    rcases HO.out.2 with hn | ⟨g', cap', cur, e, hb, hgg, h1, h2, h3, h4⟩
    · cases hn.1
    · injection e with e1 e2 e3
      rw [bitsOf_length] at e2
      omega
  have hLn : ((bitsOf V L).drop (L - n)).length = n := by rw [List.length_drop, bitsOf_length]; omega
  have HQ : Aside0 (RL w (if c = L - n then some ⟨g, 0, none⟩ else some ⟨g, L - n, none⟩) ((bitsOf V L).drop (L - n))) := by
    have h := ReadsOf.drop_ (c := c) hq2 (L - n) (by rw [bitsOf_length]; omega) (by rw [bitsOf_length]; exact hL2)
    simp only [Option.map_some, add_plain] at h
    have e : (bitsOf V L).length - (L - n) = ((bitsOf V L).drop (L - n)).length := by rw [hLn, bitsOf_length]; omega
    rw [e] at h
    exact ⟨h⟩
  have HF := Aside0.mk (OL.take HO.out (L - n) (by rw [bitsOf_length]; omega) g rfl)
  clear hq2 hB2
  have HN := Aside0.mk (numL_drop V L (L - n) (by omega))
  rw [show L - (L - n) = n by omega] at HN
  generalize (bitsOf V L).drop (L - n) = X at *
  generalize V / 2 ^ (L - n) % 2 ^ n = Z at *
  have eLn : L - (L - n) = n := by omega
  have hq1 : L - n ≤ c := by omega
  have hq3 : L - n ≤ L := by omega
  go_enter Try.func17, Try.ntmps17
  go_wp2_with fail
  go_quiet ((go_at_call 33; with_reducible first
    | exact Calls.quiet_of_same (refnum_len _ _ _ n X (RL.drewN HQ.out _) hLn h24)))
  rw [HN.out]
  have HF2 : Aside0 (OL w B (.slice (some ⟨g, 0, none⟩) (L - n) c) (bitsOf V (L - n))) := ⟨by have := HF.out; rw [bitsOf_take _ _ _ (by omega)] at this; exact this⟩
  have hfin := pw_below_drewN (Below.refl w.heap.size w) nq
  clear HF HQ HO
  generalize (if c = L - n then some (⟨g, 0, none⟩ : Addr) else some ⟨g, L - n, none⟩) = Ad at *
  go_wp2_with fail
  go_ret3
  exact ⟨rfl, HF2.out, hfin⟩
/-- The list's answer, whether it can be or not. -/
theorem reftake_gen (w : World) (B g c L V : Nat) (n : Int) (ho : OL w B (.slice (some ⟨g, 0, none⟩) L c) (bitsOf V L)) (hL : L ≤ 10000) :
    Calls Try.prog 17 #[.slice (some ⟨g, 0, none⟩) L c, .int .i64 n] w fun e w' => e = .returned (.tuple #[.slice (some ⟨g, 0, none⟩) (tl L n) c, .int .u32 ((tv V L n : Nat) : Int), .bool (can L n)]) ∧ OL w' B (.slice (some ⟨g, 0, none⟩) (tl L n) c) (bitsOf V (tl L n)) ∧ Below w.heap.size w w' := by
  by_cases hc : can L n = true
  · have h' := of_decide_eq_true hc
    obtain ⟨k, rfl⟩ := Int.eq_ofNat_of_zero_le h'.1
    unfold tv tl
    rw [if_pos hc, if_pos hc, hc]
    exact reftake_yes w B g c L k V ho (by omega) (by omega) hL
  · unfold tv tl
    rw [if_neg hc, if_neg hc, Bool.eq_false_iff.2 hc]
    refine (reftake_no w _ c L n (Bool.eq_false_iff.2 hc)).mono ?_
    rintro e w1 ⟨rfl, rfl⟩
    exact ⟨rfl, ho, Below.refl _ _⟩
end Go.Proofs.Ytohgkdiagekmbaa.Bitr
