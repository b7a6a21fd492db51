/- Proved here: what the functions of package plain and of its reference do. Conditions: each theorem's own. -/
import Derived.Test.YtdgomddbppgkmaaBitwPart
namespace Go.Proofs.Ytdgomddbppgkmaa.Plain
open Go.RowKit Go.Proofs.YtdgomddbppgkmaaW.PrintWords Go.Proofs.Ytdgomddbppgkmaa.CrcM Go.Proofs.Ytdgomddbppgkmaa.BitsM Go.Proofs.Ytdgomddbppgkmaa.Base Go.Proofs.Ytdgomddbppgkmaa.Bitw

set_option maxRecDepth 100000 in
set_option maxHeartbeats 400000 in
theorem alike1_any (w : World) (p : Addr) (A : Option Addr) (c x y : Nat) (bs : List Nat) (hr : RB w A bs) (hp : w.cell? p = some (.slice A bs.length c)) (h0 : 0 < bs.length) (hy : bs.getD 0 0 = y) :
    Calls Try.prog 37 #[.int .u8 (x : Int), .pointer (some p)] w fun e w' => e = .returned (.bool (x != y)) ∧ w = w' := by
  obtain ⟨ad, rfl, hc⟩ := hr.at_ 0 h0
  rw [hy] at hc
  have hc' : w.cell? ad = some (.int .u8 (y : Int)) := hc
  clear hc hr hy
  go_enter Try.func37, Try.ntmps37
  go_wp2_with fail
  go_ret
  exact ⟨ret_bool (by rw [Bool.eq_iff_iff]; simp only [bne_iff_ne, ne_eq, Int.natCast_inj]), rfl⟩
theorem all_no (bs : List Nat) (y k : Nat) (hk : k < bs.length) (h : bs.getD k 0 ≠ y) : bs.all (· == y) = false := by
  rw [Bool.eq_false_iff]
  intro h1
  rw [List.all_eq_true] at h1
  have := h1 (bs.getD k 0) (by rw [List.getD_eq_getElem?_getD, List.getElem?_eq_getElem hk]; exact List.getElem_mem _)
  exact h (by simpa using this)
theorem all_yes (bs : List Nat) (y : Nat) (h : ∀ j, j < bs.length → bs.getD j 0 = y) : bs.all (· == y) = true := by
  rw [List.all_eq_true]
  intro x hx
  obtain ⟨j, hj, rfl⟩ := List.mem_iff_getElem.1 hx
  have := h j hj
  rw [List.getD_eq_getElem?_getD, List.getElem?_eq_getElem hj] at this
  simpa using this
set_option maxRecDepth 100000 in
set_option maxHeartbeats 400000 in
theorem index_any (w : World) (p : Addr) (A : Option Addr) (c y : Nat) (bs : List Nat) (hr : RB w A bs) (hp : w.cell? p = some (.slice A bs.length c)) (h0 : 0 < bs.length) (hy : bs.getD 0 0 = y) (hn : bs.length ≤ 1000) :
    Calls Try.prog 42 #[.slice A bs.length c, .func (.func 37) #[] #[.pointer (some p)]] w fun e w' => ∃ r : Int, e = .returned (.int .i64 r) ∧ decide (0 ≤ r) = !(bs.all (· == y)) ∧ w = w' := by
  have HR := Aside0.mk hr
  have HP := Aside0.mk hp
  have HY := Aside0.mk hy
  clear hr hp hy
  go_enter Try.func42, Try.ntmps42
  go_wp2_with fail
  go_loopw [8] (fun i wr => ∃ k : Nat, k ≤ bs.length ∧ i = .int .i64 k ∧ Aside0 (∀ j, j < k → bs.getD j 0 = y) ∧ w = wr) (fun i _ => bs.length - (intOf i).toNat)
  case atStart => exact ⟨0, by omega, rfl, ⟨by intro j hj; omega⟩, rfl⟩
  case round =>
    obtain ⟨k, hk, rfl, HA, rfl⟩ := hrel
    by_cases hlt : k < bs.length
    · obtain ⟨ad, rfl, hc⟩ := HR.out.at_ k hlt
      obtain ⟨x, hx⟩ : ∃ x, bs.getD k 0 = x := ⟨_, rfl⟩
      have HX := Aside0.mk hx
      rw [hx] at hc
      clear hx
      go_wp2_with fail
      refine (alike1_any w p _ c x y bs HR.out HP.out h0 HY.out).mono ?_
      rintro e w1 ⟨rfl, rfl⟩
      by_cases hxy : x = y
      · have hb : (x != y) = false := by rw [hxy]; simp
        rw [hb]
        have HA2 := Aside0.mk (show ∀ j, j < k + 1 → bs.getD j 0 = y from fun j hj => by
          rcases Nat.lt_or_ge j k with h | h
          · exact HA.out j h
          · obtain rfl : j = k := by omega
            rw [HX.out, hxy])
        clear hxy hb
        go_wp2_with fail
        go_roundw
        case rel => exact ⟨k + 1, by omega, by go_num, HA2, by first | rfl | trivial⟩
        case measure => simp [intOf]; omega
      · have hb : (x != y) = true := by simpa using hxy
        rw [hb]
        have hf := all_no bs y k hlt (by rw [HX.out]; exact hxy)
        clear hxy hb
        go_wp2_with fail
        go_ret
        refine ⟨(k : Int), rfl, ?_, rfl⟩
        rw [hf]; simp
    · obtain rfl : k = bs.length := by omega
      have ht := all_yes bs y HA.out
      go_wp2_with fail
      go_ret
      refine ⟨-1, rfl, ?_, rfl⟩
      rw [ht]; rfl
set_option maxRecDepth 100000 in
set_option maxHeartbeats 400000 in
theorem contains_any (w : World) (p : Addr) (A : Option Addr) (c y : Nat) (bs : List Nat) (hr : RB w A bs) (hp : w.cell? p = some (.slice A bs.length c)) (h0 : 0 < bs.length) (hy : bs.getD 0 0 = y) (hn : bs.length ≤ 1000) :
    Calls Try.prog 36 #[.slice A bs.length c, .func (.func 37) #[] #[.pointer (some p)]] w fun e w' => e = .returned (.bool (!(bs.all (· == y)))) ∧ w = w' := by
  have HR := Aside0.mk hr
  have HP := Aside0.mk hp
  have HY := Aside0.mk hy
  clear hr hp hy
  go_enter Try.func36, Try.ntmps36
  go_wp2_with fail
  refine (index_any w p A c y bs HR.out HP.out h0 HY.out hn).mono ?_
  rintro e w1 ⟨r, rfl, hd, rfl⟩
  have HD := Aside0.mk hd
  clear hd
  go_wp2_with fail
  go_ret
  exact ⟨ret_bool HD.out, rfl⟩
set_option maxRecDepth 100000 in
set_option maxHeartbeats 400000 in
theorem kinds_any (w : World) (k : Int) :
    Calls Try.prog 27 #[.int .i64 k] w fun e w' => e = .returned (.bool (decide (k = 0 ∨ k = 1))) ∧ w = w' := by
  by_cases h0 : k = 0
  · subst h0
    go_enter Try.func27, Try.ntmps27
    go_wp2_with fail
    go_ret
    exact ⟨rfl, rfl⟩
  · by_cases h1 : k = 1
    · subst h1
      go_enter Try.func27, Try.ntmps27
      go_wp2_with fail
      go_ret
      exact ⟨rfl, rfl⟩
    · have e0 : (k == 0) = false := by rw [beq_eq_false_iff_ne]; exact h0
      have e1 : (k == 1) = false := by rw [beq_eq_false_iff_ne]; exact h1
      have ed : decide (k = 0 ∨ k = 1) = false := by rw [decide_eq_false_iff_not]; omega
      rw [ed]
      go_enter Try.func27, Try.ntmps27
      go_wp2_with fail
      go_ret
      exact ⟨rfl, rfl⟩
set_option maxRecDepth 100000 in
set_option maxHeartbeats 400000 in
theorem alike_any (w : World) (A : Option Addr) (c : Nat) (bs : List Nat) (hr : RB w A bs) (hn : bs.length ≤ 1000) :
    Calls Try.prog 28 #[.slice A bs.length c] w fun e w' => e = .returned (.bool (decide (1 < bs.length) && bs.all (· == bs.getD 0 0))) ∧ Below w.heap.size w w' := by
  have HR := Aside0.mk hr
  clear hr
  by_cases h1 : 1 < bs.length
  · rw [decide_eq_true h1, Bool.true_and]
    go_enter Try.func28, Try.ntmps28
    go_wp2_with fail
    refine (contains_any _ ⟨w.heap.size, 0, none⟩ A c (bs.getD 0 0) bs (HR.out.below (below_alloc (Below.refl _ _) _)) (by rw [cell_of_row _ _ _ _ _ _ (heap_alloc_new w _)]; rfl) (by omega) rfl hn).mono ?_
    rintro e w1 ⟨rfl, rfl⟩
    have hb := below_alloc (Below.refl w.heap.size w) (.cells #[.slice A bs.length c] 22)
    generalize w.alloc (.cells #[.slice A bs.length c] 22) = W at *
    obtain ⟨b, hB⟩ : ∃ b, bs.all (· == bs.getD 0 0) = b := ⟨_, rfl⟩
    rw [hB]
    have HB := Aside0.mk hB
    clear hB
    go_wp2_with fail
    go_ret
    exact ⟨ret_bool (by rw [HB.out]), hb⟩
  · rw [decide_eq_false h1, Bool.false_and]
    go_enter Try.func28, Try.ntmps28
    go_wp2_with fail
    go_ret
    exact ⟨rfl, below_alloc (Below.refl _ _) _⟩

/-! encoding -/
def alikeB (bs : List Nat) : Bool := decide (1 < bs.length) && bs.all (· == bs.getD 0 0)
def enc (k : Int) (bs : List Nat) : Option (List Nat) := if k = 0 then some bs else if k = 1 then (if alikeB bs = true then some (bs.take 1) else none) else none
def errOf (o : Option (List Nat)) : Int := if o.isSome then 0 else 1
set_option maxRecDepth 100000 in
set_option maxHeartbeats 400000 in
theorem encode_any (w : World) (k : Int) (A : Option Addr) (c : Nat) (bs : List Nat) (hr : RB w A bs) (hn : bs.length ≤ 1000) :
    Calls Try.prog 13 #[.int .i64 k, .slice A bs.length c] w fun e w' => ∃ v, e = .returned (.tuple #[v, .int .i64 (errOf (enc k bs))]) ∧ OB w' w.heap.size 5 v ((enc k bs).getD []) ∧ Below w.heap.size w w' := by
  have HR := Aside0.mk hr
  clear hr
  by_cases h0 : k = 0
  · subst h0
    go_enter Try.func13, Try.ntmps13
    go_wp2_with fail
    refine (kinds_any w 0).mono ?_
    rintro e w1 ⟨rfl, rfl⟩
    go_wp2_with fail
    refine (clone_any w A c bs HR.out (by omega)).mono ?_
    rintro e w1 ⟨r, rfl, ho, hb⟩
    go_wp2_with fail
    go_ret2
    exact ⟨r, rfl, ho, hb⟩
  · by_cases h1 : k = 1
    · subst h1
      go_enter Try.func13, Try.ntmps13
      go_wp2_with fail
      refine (kinds_any w 1).mono ?_
      rintro e w1 ⟨rfl, rfl⟩
      go_wp2_with fail
      refine (alike_any w A c bs HR.out (by omega)).mono ?_
      rintro e w1 ⟨rfl, hb⟩
      rcases ha : alikeB bs with _ | _
      · have ha' := ha
        unfold alikeB at ha'
        rw [ha']
        have HE := Aside0.mk (show enc 1 bs = none by unfold enc; rw [if_neg (by decide), if_pos rfl, ha]; rfl)
        clear ha ha'
        go_wp2_with fail
        go_ret2
        rw [HE.out]
        exact ⟨_, rfl, OB.nil _ _ _, hb⟩
      · have ha' := ha
        unfold alikeB at ha'
        rw [ha']
        have HE := Aside0.mk (show enc 1 bs = some (bs.take 1) by unfold enc; rw [if_neg (by decide), if_pos rfl, ha]; rfl)
        have hl : 1 < bs.length := by
          rw [Bool.and_eq_true, decide_eq_true_eq] at ha'
          exact ha'.1
        clear ha ha'
        obtain ⟨ad, rfl, hc⟩ := (HR.out.below hb).at_ 0 (by omega)
        have hc' : w1.cell? ad = some (.int .u8 ((bs.getD 0 0 : Nat) : Int)) := hc
        have hlt := HR.out.lt 0
        have HT := Aside0.mk (show bs.take 1 = [bs.getD 0 0] by
          cases bs with
          | nil => simp at hl
          | cons x l => simp)
        clear hc
        generalize bs.getD 0 0 = x at *
        go_wp2_with fail
        go_ret2
        rw [HE.out]
        refine ⟨_, rfl, ?_, hb.alloc hb.size _⟩
        show OB _ _ _ _ (bs.take 1)
        rw [HT.out]
        exact OB.lit w1 w.heap.size 5 [x] (by simpa using hlt) hb.size (by simp)
    · have e0 : (k == 0) = false := by rw [beq_eq_false_iff_ne]; exact h0
      have e1 : (k == 1) = false := by rw [beq_eq_false_iff_ne]; exact h1
      have ed : decide (k = 0 ∨ k = 1) = false := by rw [decide_eq_false_iff_not]; omega
      have HE := Aside0.mk (show enc k bs = none by unfold enc; rw [if_neg h0, if_neg h1])
      go_enter Try.func13, Try.ntmps13
      go_wp2_with fail
      refine (kinds_any w k).mono ?_
      rintro e w1 ⟨rfl, rfl⟩
      rw [ed]
      go_wp2_with fail
      go_ret2
      rw [HE.out]
      exact ⟨_, rfl, OB.nil _ _ _, Below.refl _ _⟩
set_option maxRecDepth 100000 in
set_option maxHeartbeats 400000 in
theorem refencode_any (w : World) (k : Int) (A : Option Addr) (c : Nat) (bs : List Nat) (hr : RB w A bs) (hc : bs.length ≤ c) (hn : bs.length ≤ 1000) :
    Calls Try.prog 14 #[.int .i64 k, .slice A bs.length c] w fun e w' => ∃ A' c', e = .returned (.tuple #[.slice A' ((enc k bs).getD []).length c', .int .i64 (errOf (enc k bs))]) ∧ RB w' A' ((enc k bs).getD []) ∧ Below w.heap.size w w' := by
  have HR := Aside0.mk hr
  clear hr
  by_cases hk : k < 0 ∨ 1 < k
  · have HE := Aside0.mk (show enc k bs = none by unfold enc; rw [if_neg (by omega), if_neg (by omega)])
    rw [HE.out]
    by_cases hk0 : k < 0
    · go_enter Try.func14, Try.ntmps14
      go_wp2_with fail
      go_ret2
      first | exact ⟨none, 0, rfl, RB.nil _, Below.refl _ _⟩ | exact ⟨none, ⟨0, rfl⟩, RB.nil _, Below.refl _ _⟩
    · have hk1 : 1 < k := by omega
      clear hk
      go_enter Try.func14, Try.ntmps14
      go_wp2_with fail
      go_ret2
      first | exact ⟨none, 0, rfl, RB.nil _, Below.refl _ _⟩ | exact ⟨none, ⟨0, rfl⟩, RB.nil _, Below.refl _ _⟩
  · by_cases h0 : k = 0
    · subst h0
      clear hk
      go_enter Try.func14, Try.ntmps14
      go_wp2_with fail
      go_ret2
      exact ⟨_, _, rfl, HR.out, Below.refl _ _⟩
    · obtain rfl : k = 1 := by omega
      clear hk h0
      by_cases hl : bs.length < 2
      · have HE := Aside0.mk (show enc 1 bs = none by unfold enc alikeB; rw [if_neg (by decide), if_pos rfl, decide_eq_false (by omega)]; rfl)
        rw [HE.out]
        go_enter Try.func14, Try.ntmps14
        go_wp2_with fail
        go_ret2
        first | exact ⟨none, 0, rfl, RB.nil _, Below.refl _ _⟩ | exact ⟨none, ⟨0, rfl⟩, RB.nil _, Below.refl _ _⟩
      · obtain ⟨y, hy⟩ : ∃ y, bs.getD 0 0 = y := ⟨_, rfl⟩
        have HY := Aside0.mk hy
        clear hy
        go_enter Try.func14, Try.ntmps14
        go_wp2_with fail
        go_loopw [6] (fun i wr => ∃ k : Nat, k ≤ bs.length ∧ i = .int .i64 k ∧ Aside0 (∀ j, j < k → bs.getD j 0 = y) ∧ Below w.heap.size w wr) (fun i _ => bs.length - (intOf i).toNat)
        case atStart => exact ⟨0, by omega, rfl, ⟨by intro j hj; omega⟩, Below.refl _ _⟩
        case round =>
          obtain ⟨k, hk, rfl, HA, hbr⟩ := hrel
          by_cases hlt : k < bs.length
          · obtain ⟨ad, rfl, hc1⟩ := (HR.out.below hbr).at_ k hlt
            obtain ⟨ad', he, hc0⟩ := (HR.out.below hbr).at_ 0 (by omega)
            injection he with he
            subst he
            obtain ⟨x, hx⟩ : ∃ x, bs.getD k 0 = x := ⟨_, rfl⟩
            have HX := Aside0.mk hx
            rw [hx] at hc1
            rw [HY.out] at hc0
            have hc0' : wr.cell? ad = some (.int .u8 (y : Int)) := hc0
            clear hx hc0
            by_cases hxy : x = y
            · have HA2 := Aside0.mk (show ∀ j, j < k + 1 → bs.getD j 0 = y from fun j hj => by
                rcases Nat.lt_or_ge j k with h | h
                · exact HA.out j h
                · obtain rfl : j = k := by omega
                  rw [HX.out, hxy])
              subst hxy
              go_wp2_with fail
              go_quiet (fail)
              have hbr2 := pw_below_drewN hbr nq
              go_wp2_with fail
              go_roundw
              case rel => exact ⟨k + 1, by omega, by go_num, HA2, hbr2⟩
              case measure => simp [intOf]; omega
            · have hf := all_no bs y k hlt (by rw [HX.out]; exact hxy)
              have HE := Aside0.mk (show enc 1 bs = none by unfold enc alikeB; rw [if_neg (by decide), if_pos rfl, HY.out, hf, Bool.and_false]; rfl)
              have hbne : ((x : Int) != (y : Int)) = true := by rw [bne_iff_ne]; omega
              clear hf
              go_wp2_with fail
              go_quiet (fail)
              have hbr2 := pw_below_drewN hbr nq
              go_wp2_with fail
              go_ret2
              rw [HE.out]
              exact ⟨none, 0, rfl, RB.nil _, hbr2⟩
          · obtain rfl : k = bs.length := by omega
            have ht := all_yes bs y HA.out
            have HE := Aside0.mk (show enc 1 bs = some (bs.take 1) by unfold enc alikeB; rw [if_neg (by decide), if_pos rfl, HY.out, ht, Bool.and_true, if_pos (by rw [decide_eq_true_eq]; omega)])
            have HT := Aside0.mk ((HR.out.below hbr).take_ 1 (by omega))
            clear ht
            go_wp2_with fail
            go_ret2
            rw [HE.out]
            have hl1 : (bs.take 1).length = 1 := by rw [List.length_take]; omega
            refine ⟨A, c, ?_, HT.out, hbr⟩
            show _ = Ending.returned (.tuple #[.slice A (bs.take 1).length c, .int .i64 0])
            rw [hl1]
            rfl

/-! decoding -/
def dec (k : Int) (bs : List Nat) (n : Int) : Int × List Nat :=
  if (k = 0 ∨ k = 1) ∧ 0 ≤ n ∧ n ≤ 131072 then
    (if k = 0 then (if (bs.length : Int) = n then (0, bs) else (11, []))
     else (if bs.length = 1 ∧ 2 ≤ n then (0, List.replicate n.toNat (bs.getD 0 0)) else (11, [])))
  else (1, [])
set_option maxRecDepth 100000 in
set_option maxHeartbeats 1000000 in
theorem decode_any (w : World) (k n : Int) (A : Option Addr) (c : Nat) (bs : List Nat) (hr : RB w A bs) (hn : bs.length ≤ 1000) (hm : n ≤ 1000 ∨ 131072 < n) :
    Calls Try.prog 16 #[.int .i64 k, .slice A bs.length c, .int .i64 n] w fun e w' => ∃ v, e = .returned (.tuple #[v, .int .i64 (dec k bs n).1]) ∧ OB w' w.heap.size 5 v (dec k bs n).2 ∧ Below w.heap.size w w' := by
  have HR := Aside0.mk hr
  clear hr
  by_cases hk : k = 0 ∨ k = 1
  · by_cases hn0 : 0 ≤ n ∧ n ≤ 131072
    · obtain ⟨m, rfl⟩ := Int.eq_ofNat_of_zero_le hn0.1
      rcases hk with rfl | rfl
      · by_cases hl : bs.length = m
        · subst hl
          have HE := Aside0.mk (show dec 0 bs (bs.length : Int) = (0, bs) by unfold dec; rw [if_pos ⟨.inl rfl, hn0⟩, if_pos rfl, if_pos rfl])
          rw [HE.out]
          clear hn0 hm
          go_enter Try.func16, Try.ntmps16
          go_wp2_with fail
          refine (kinds_any w 0).mono ?_
          rintro e w1 ⟨rfl, rfl⟩
          go_wp2_with fail
          go_loopw [8, 45] (fun v i wr => ∃ j : Nat, j ≤ bs.length ∧ i = .int .i64 j ∧ Aside0 (OB wr w.heap.size 5 v (bs.take j)) ∧ Below w.heap.size w wr) (fun _ i _ => bs.length - (intOf i).toNat)
          case atStart => exact ⟨0, by omega, rfl, ⟨OB.nil _ _ _⟩, Below.refl _ _⟩
          case round =>
            obtain ⟨j, hj, rfl, HO, hbr⟩ := hrel
            by_cases hlt : j < bs.length
            · obtain ⟨ad, rfl, hc⟩ := (HR.out.below hbr).at_ j hlt
              have hx8 := HR.out.lt j
              have HT := Aside0.mk (show bs.take (j + 1) = bs.take j ++ [bs.getD j 0] by
                rw [List.take_succ_eq_append_getElem hlt, List.getD_eq_getElem?_getD, List.getElem?_eq_getElem hlt]; rfl)
              have htl : (bs.take j).length ≤ 1000 := by rw [List.length_take]; omega
              generalize bs.getD j 0 = x at *
              generalize bs.take j = cs at *
              go_wp2_with (at_builtin; refine OB.append1 (w0 := wr) w.heap.size rfl (.tmp 48) (.tmp 56) 22 5 rfl Try.underlying22 info_u8 u8 cs x hx8 rfl rfl HO.out (Below.refl _ _) hbr.size (by omega) ?_; intro v1 w2 hown2 hbel2 hgr2 hat2)
              have R1 := Aside0.mk (show OB w2 w.heap.size 5 v1 (bs.take (j + 1)) by rw [HT.out]; exact hown2)
              have hbr2 := hbr.trans hbel2
              clear hown2 hbel2 hgr2 hat2
              go_roundw
              case rel => exact ⟨j + 1, by omega, by go_num, R1, hbr2⟩
              case measure => simp [intOf]; omega
            · obtain rfl : j = bs.length := by omega
              rw [List.take_length] at HO
              go_wp2_with fail
              go_ret2
              exact ⟨_, rfl, HO.out, hbr⟩
        · have HE := Aside0.mk (show dec 0 bs (m : Int) = (11, []) by unfold dec; rw [if_pos ⟨.inl rfl, hn0⟩, if_pos rfl, if_neg (by omega)])
          rw [HE.out]
          have hne : ((bs.length : Int) != (m : Int)) = true := by rw [bne_iff_ne]; omega
          go_enter Try.func16, Try.ntmps16
          go_wp2_with fail
          refine (kinds_any w 0).mono ?_
          rintro e w1 ⟨rfl, rfl⟩
          go_wp2_with fail
          go_ret2
          exact ⟨_, rfl, OB.nil _ _ _, Below.refl _ _⟩
      · by_cases hl : bs.length = 1 ∧ 2 ≤ m
        · have HE := Aside0.mk (show dec 1 bs (m : Int) = (0, List.replicate m (bs.getD 0 0)) by unfold dec; rw [if_pos ⟨.inr rfl, hn0⟩, if_neg (by decide), if_pos ⟨hl.1, by omega⟩]; rfl)
          rw [HE.out]
          have hm1 : m ≤ 1000 := by omega
          obtain ⟨ad, rfl, hc⟩ := HR.out.at_ 0 (by omega)
          have hx8 := HR.out.lt 0
          have hc' : w.cell? ad = some (.int .u8 ((bs.getD 0 0 : Nat) : Int)) := hc
          generalize bs.getD 0 0 = x at *
          rw [hl.1]
          have hm2 := hl.2
          clear hc hl hn0 hm hn
          go_enter Try.func16, Try.ntmps16
          go_wp2_with fail
          refine (kinds_any w 1).mono ?_
          rintro e w1 ⟨rfl, rfl⟩
          go_wp2_with fail
          go_loopw [8, 45] (fun v i wr => ∃ j : Nat, j ≤ m ∧ i = .int .i64 j ∧ Aside0 (OB wr w.heap.size 5 v (List.replicate j x)) ∧ Below w.heap.size w wr) (fun _ i _ => m - (intOf i).toNat)
          case atStart => exact ⟨0, by omega, rfl, ⟨OB.nil _ _ _⟩, Below.refl _ _⟩
          case round =>
            obtain ⟨j, hj, rfl, HO, hbr⟩ := hrel
            by_cases hlt : j < m
            · have hc2 := pw_cell_below hbr hc'
              have HT := Aside0.mk (show List.replicate (j + 1) x = List.replicate j x ++ [x] by rw [List.replicate_succ'])
              have htl : (List.replicate j x).length ≤ 1000 := by rw [List.length_replicate]; omega
              generalize List.replicate j x = cs at *
              go_wp2_with (at_builtin; refine OB.append1 (w0 := wr) w.heap.size rfl (.tmp 48) (.tmp 56) 22 5 rfl Try.underlying22 info_u8 u8 cs x hx8 rfl rfl HO.out (Below.refl _ _) hbr.size (by omega) ?_; intro v1 w2 hown2 hbel2 hgr2 hat2)
              have R1 := Aside0.mk (show OB w2 w.heap.size 5 v1 (List.replicate (j + 1) x) by rw [HT.out]; exact hown2)
              have hbr2 := hbr.trans hbel2
              clear hown2 hbel2 hgr2 hat2
              go_roundw
              case rel => exact ⟨j + 1, by omega, by go_num, R1, hbr2⟩
              case measure => simp [intOf]; omega
            · obtain rfl : j = m := by omega
              go_wp2_with fail
              go_ret2
              exact ⟨_, rfl, HO.out, hbr⟩
        · have HE := Aside0.mk (show dec 1 bs (m : Int) = (11, []) by unfold dec; rw [if_pos ⟨.inr rfl, hn0⟩, if_neg (by decide), if_neg (by omega)])
          rw [HE.out]
          by_cases h1 : bs.length = 1
          · have h2 : (m : Int) < 2 := by omega
            rw [h1]
            clear hl h1
            go_enter Try.func16, Try.ntmps16
            go_wp2_with fail
            refine (kinds_any w 1).mono ?_
            rintro e w1 ⟨rfl, rfl⟩
            go_wp2_with fail
            go_ret2
            exact ⟨_, rfl, OB.nil _ _ _, Below.refl _ _⟩
          · have hne : ((bs.length : Int) != 1) = true := by rw [bne_iff_ne]; omega
            go_enter Try.func16, Try.ntmps16
            go_wp2_with fail
            refine (kinds_any w 1).mono ?_
            rintro e w1 ⟨rfl, rfl⟩
            go_wp2_with fail
            go_ret2
            exact ⟨_, rfl, OB.nil _ _ _, Below.refl _ _⟩
    · have HE := Aside0.mk (show dec k bs n = (1, []) by unfold dec; rw [if_neg (fun h => hn0 h.2)])
      rw [HE.out]
      by_cases h1 : n < 0
      · rcases hk with rfl | rfl
        all_goals
          go_enter Try.func16, Try.ntmps16
          go_wp2_with fail
          refine (kinds_any w _).mono ?_
          rintro e w1 ⟨rfl, rfl⟩
          go_wp2_with fail
          go_ret2
          exact ⟨_, rfl, OB.nil _ _ _, Below.refl _ _⟩
      · have h2 : 131072 < n := by omega
        clear hn0 hm
        rcases hk with rfl | rfl
        all_goals
          go_enter Try.func16, Try.ntmps16
          go_wp2_with fail
          refine (kinds_any w _).mono ?_
          rintro e w1 ⟨rfl, rfl⟩
          go_wp2_with fail
          go_ret2
          exact ⟨_, rfl, OB.nil _ _ _, Below.refl _ _⟩
  · have HE := Aside0.mk (show dec k bs n = (1, []) by unfold dec; rw [if_neg (fun h => hk h.1)])
    rw [HE.out]
    have ed : decide (k = 0 ∨ k = 1) = false := by rw [decide_eq_false_iff_not]; exact hk
    clear hk
    go_enter Try.func16, Try.ntmps16
    go_wp2_with fail
    refine (kinds_any w _).mono ?_
    rintro e w1 ⟨rfl, rfl⟩
    rw [ed]
    go_wp2_with fail
    go_ret2
    exact ⟨_, rfl, OB.nil _ _ _, Below.refl _ _⟩
end Go.Proofs.Ytdgomddbppgkmaa.Plain
