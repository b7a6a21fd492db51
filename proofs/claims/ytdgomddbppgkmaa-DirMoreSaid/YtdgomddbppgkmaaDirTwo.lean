/- Proved here: what dir.Has and dir.Take compute: whether a number is among the places where bits of the first 32 bytes are 1; the list of these places, or which error there is. Conditions: each theorem's own. -/
import Derived.RangeFuncBox
import Derived.Maps.AppendAt
import Derived.Test.YtdgomddbppgkmaaDirRange
namespace Go.Proofs.Ytdgomddbppgkmaa.Dir
open Go.RowKit Go.Shelf Go.Proofs.YtdgomddbppgkmaaW.PrintWords Go.Proofs.Ytdgomddbppgkmaa.CrcM Go.Proofs.Ytdgomddbppgkmaa.BitsM Go.Proofs.Ytdgomddbppgkmaa.Base Go.Proofs.Ytdgomddbppgkmaa.Bitw
attribute [local go_sem] Oper.semAt_some

/-- The places of the directory's bits 1. -/
def onesOf (bs : List Nat) : List Nat := onesTo (val (bs.take 32)) 256
def hasV (bs : List Nat) (x : Int) : Bool := decide (32 ≤ bs.length) && (onesOf bs).any fun k => decide ((k : Int) = x)

theorem cell_blk1 {w : World} {B : Nat} {v : Value} {t : TypeId} (h : w.heap[B]? = some (.cells #[v] t (0, 0))) : w.cell? ⟨B, 0, none⟩ = some v := blk_cell h 0
theorem blk_alloc {w : World} {B : Nat} {o o' : Obj} (h : w.heap[B]? = some o) : (w.alloc o').heap[B]? = some o :=
  (Below.heap_alloc w o' B (Array.getElem?_eq_some_iff.1 h).1).trans h

set_option maxRecDepth 100000 in
set_option maxHeartbeats 2000000 in
theorem has_any (w : World) (A : Option Addr) (c : Nat) (bs : List Nat) (x : Int) (hr : RB w A bs) (hc : bs.length ≤ c) :
    Calls Try.prog 24 #[.slice A bs.length c, .int .i64 x] w fun e w' => e = .returned (.bool (hasV bs x)) ∧ Below w.heap.size w w' := by
  refine (callsIn_wide (n := 9)).1 ?_
  by_cases h32 : bs.length < 32
  · have hv : hasV bs x = false := by simp [hasV]; intro h; omega
    rw [hv]
    have hd : ((bs.length : Int) < 32) := by omega
    refine callsIn_of_wp_marks Try.func24 rfl trivial ?_ rfl
    simp only [Try.ntmps24, List.size_toArray, List.length_cons, List.length_nil, Nat.reduceAdd, Nat.reduceSub, Array.replicate_succ, Array.replicate_zero, List.push_toArray, List.append_toArray, List.nil_append, List.cons_append]
    clear hr
    gi_wp2_with fail
    refine ⟨.bool false, ?_, rfl, ((Below.refl _ w).alloc (Nat.le_refl _) _).alloc (by simp) _⟩
    have hce := cell_blk1 (World.alloc_heap_new (w.alloc (.cells #[.int .i64 x] 3)) (.cells #[.bool false] 4))
    rw [World.size_alloc] at hce
    simp [results, Try.f24, go_sem, hce]
  · have hd : ¬ ((bs.length : Int) < 32) := by omega
    have hdl : decide ((bs.length : Int) < 32) = false := by rw [decide_eq_false_iff_not]; exact hd
    have hr2 := hr.take_ 32 (by omega)
    have hl2 : (bs.take 32).length = 32 := by simp; omega
    obtain ⟨b, hb⟩ : ∃ b, hasV bs x = b := ⟨_, rfl⟩
    have hb' : b = (onesOf bs).any fun k => decide ((k : Int) = x) := by rw [← hb]; simp [hasV]; intro h; omega
    rw [hb]
    have HO := Aside0.mk hb'
    have HR := Aside0.mk (And.intro hr2 hl2)
    clear hr hr2 hl2 hb hb'
    refine callsIn_of_wp_marks Try.func24 rfl trivial ?_ rfl
    simp only [Try.ntmps24, List.size_toArray, List.length_cons, List.length_nil, Nat.reduceAdd, Nat.reduceSub, Array.replicate_succ, Array.replicate_zero, List.push_toArray, List.append_toArray, List.nil_append, List.cons_append]
    gi_wp2_with (refine ⟨trivial, ?_⟩; gi_at_call 34; refine (callsIn_wide.2 (ones_any _ _ _ _)).mono ?_; rintro e w' ⟨rfl, rfl⟩)
    have hB0 := Aside0.mk (show Below w.heap.size w (((w.alloc (.cells #[.int .i64 x] 3)).alloc (.cells #[.bool false] 4)).alloc (.cells #[.slice A 32 c] 22)) from
      (((Below.refl _ w).alloc (Nat.le_refl _) _).alloc (by simp) _).alloc (by simp; omega) _)
    have e0 := blk_alloc (o' := .cells #[.slice A 32 c] 22) (blk_alloc (o' := .cells #[.bool false] 4) (World.alloc_heap_new w (.cells #[.int .i64 x] 3)))
    have e1 := World.alloc_heap_new (w.alloc (.cells #[.int .i64 x] 3)) (.cells #[.bool false] 4)
    rw [World.size_alloc] at e1
    have e1' := blk_alloc (o' := .cells #[.slice A 32 c] 22) e1
    have e2 := World.alloc_heap_new ((w.alloc (.cells #[.int .i64 x] 3)).alloc (.cells #[.bool false] 4)) (.cells #[.slice A 32 c] 22)
    rw [World.size_alloc, World.size_alloc] at e2
    have E := Aside0.mk (And.intro e0 (And.intro e1' e2))
    have hsz := Aside0.mk (show w.heap.size + 2 < (((w.alloc (.cells #[.int .i64 x] 3)).alloc (.cells #[.bool false] 4)).alloc (.cells #[.slice A 32 c] 22)).heap.size from by simp)
    clear e0 e1 e1' e2
    generalize ((w.alloc (.cells #[.int .i64 x] 3)).alloc (.cells #[.bool false] 4)).alloc (.cells #[.slice A 32 c] 22) = W0 at *
    have hBW := hB0.out.size
    refine wpIn_range_ones (by omega) rfl (by rw [HR.out.2]; exact cell_blk1 E.out.2.2) (HR.out.1.below hB0.out) HR.out.2 rfl
      (fun pre W => (∀ y ∈ pre, (y : Int) ≠ x) ∧ W.heap[w.heap.size]? = some (.cells #[.int .i64 x] 3 (0, 0)) ∧ W.heap[w.heap.size + 1]? = some (.cells #[.bool false] 4 (0, 0)) ∧ Below w.heap.size w W)
      (fun c pre W => (c = .ret ∧ ∃ y ∈ pre, (y : Int) = x) ∧ W.heap[w.heap.size + 1]? = some (.cells #[.bool true] 4 (0, 0)) ∧ Below w.heap.size w W)
      (fun s W1 W2 hs hk => ⟨hs.1, hk.same _ _ _ _ hs.2.1 (by decide), hk.same _ _ _ _ hs.2.2.1 (by decide), hs.2.2.2.trans (hk.below.mono hBW)⟩)
      (fun c s W1 W2 hs hk => ⟨hs.1, hk.same _ _ _ _ hs.2.1 (by decide), hs.2.2.trans (hk.below.mono hBW)⟩)
      ⟨by simp, E.out.1, E.out.2.1, hB0.out⟩
      (fun y => { tmps := #[.slice A bs.length c, .int .i64 x, undef, .pointer (some ⟨w.heap.size, 0, none⟩), .pointer (some ⟨w.heap.size + 1, 0, none⟩), .int .i64 (y : Int), .slice A bs.length c, .int .i64 (bs.length : Int), .bool false, .slice A bs.length c, .slice A 32 c, .func (.func 39) #[] #[.pointer (some ⟨w.heap.size + 1 + 1, 0, none⟩)], .int .i64 (y : Int), undef, undef, undef], defers := [] })
      ?assign ?body ?done ?stop
    case assign =>
      intro l y W K hK
      gi_wp2
      exact hK
    case body =>
      rintro l pre y W ⟨hne, hc0, hc1, hBl⟩ hy _
      have hx0 := cell_blk1 hc0
      have hx1 := cell_blk1 hc1
      have hf1 := blk_frozen hc1 0
      by_cases hxy : (y : Int) = x
      · have hs := blk_set hc1 0 (.bool true)
        simp only [List.setIfInBounds_toArray, List.set_cons_zero] at hs
        have hk := KeepsOthers.setCell W ⟨w.heap.size + 1, 0, none⟩ (.bool true)
        have hb := Aside0.mk (hBl.setCell (p := ⟨w.heap.size + 1, 0, none⟩) (Nat.le_succ _) (.bool true))
        gi_wp2
        exact ⟨hk, ⟨rfl, y, List.mem_append.2 (.inr (by simp)), hxy⟩, hs, hb.out⟩
      · gi_wp2
        exact ⟨KeepsOthers.refl _, Kr.refl _, fun z hz => (List.mem_append.1 hz).elim (hne z) (fun e => by simp at e; rw [e]; exact hxy), hc0, hc1, hBl⟩
    case done =>
      rintro D W hD ⟨hne, hc0, hc1, hBl⟩ hK
      have hx1 := cell_blk1 hc1
      have hf1 := blk_frozen hc1 0
      have hbf : b = false := by
        rw [HO.out, List.any_eq_false]
        intro k hk; simpa using hne k hk
      subst hbf
      have hs := blk_set hc1 0 (.bool false)
      simp only [List.setIfInBounds_toArray, List.set_cons_zero] at hs
      have hK' := (KeepsOthers.setCell W ⟨w.heap.size + 1, 0, none⟩ (.bool false)).same D _ hK rfl
      have hb := Aside0.mk (hBl.setCell (p := ⟨w.heap.size + 1, 0, none⟩) (Nat.le_succ _) (.bool false))
      gi_wp2
      refine ⟨by simp, .inl ⟨_, _, rfl, run_takeDeferred hK', ?_⟩⟩
      have hce := cell_blk1 ((Kc.put (B := w.heap.size) (by omega) hK' rfl (.deferred none)).same _ _ _ _ hs (by decide))
      refine ⟨.bool false, ?_, rfl, hb.out.trans (Kc.put (by omega) hK' rfl (.deferred none)).below⟩
      simp [results, Try.f24, go_sem, hce]
    case stop =>
      rintro D c2 pre W hD hpre ⟨⟨rfl, y, hy, hxy⟩, hc1, hBl⟩ hK
      have hbt : b = true := by
        rw [HO.out, List.any_eq_true]
        exact ⟨y, hpre.subset hy, by simpa using hxy⟩
      subst hbt
      gi_wp2
      refine ⟨by simp, .inl ⟨_, _, rfl, run_takeDeferred hK, ?_⟩⟩
      have hce := cell_blk1 ((Kc.put (B := w.heap.size) (by omega) hK rfl (.deferred none)).same _ _ _ _ hc1 (by decide))
      refine ⟨.bool true, ?_, rfl, hBl.trans (Kc.put (by omega) hK rfl (.deferred none)).below⟩
      simp [results, Try.f24, go_sem, hce]

theorem info_int : (Try.prog.info? 3).map (fun i => (i.zero, i.size, i.bytes)) = some (some (.int .i64 0), 1, 8) := by kernel_rfl
/-- A list of natural numbers as a row of ints. -/
def zl (l : List Nat) : List Int := l.map fun n : Nat => (n : Int)
def ni (l : List Nat) : List Value := nums .i64 (zl l)
theorem ni_snoc (l : List Nat) (x : Nat) : ni (l ++ [x]) = ni l ++ [.int .i64 (x : Int)] := by simp [ni, zl, nums]
theorem ni_nil : ni [] = [] := by simp [ni, zl, nums]
theorem nil_row (w : World) (B : Nat) : w.ownsRow B 3 1 (.slice none 0 0) ([] : List Nat).length (ni []) := by rw [ni_nil]; exact own_nil _ _ _ _
def takeE (bs : List Nat) : Nat := if bs.length < 32 then 3 else if (onesOf bs).head? = some 0 then 0 else 13
def takeL (bs : List Nat) : List Nat := if bs.length < 32 then [] else if (onesOf bs).head? = some 0 then onesOf bs else []

theorem own_kc {B base : Nat} {w w' : World} {e : TypeId} {size n : Nat} {v : Value} {xs : List Value} (h : w.ownsRow base e size v n xs) (hk : Kc B w w') (he : e ≠ 67) : w'.ownsRow base e size v n xs := by
  refine ⟨h.1, ?_⟩
  rcases h.2 with hn | ⟨g, cap, cur, hv, hb, hg, rest⟩
  · exact .inl hn
  · exact .inr ⟨g, cap, cur, hv, hb, hk.same _ _ _ _ hg he, rest⟩
theorem Kr.alloc (w : World) (o : Obj) : Kr w (w.alloc o) := ⟨by simp, fun _ _ _ _ hk _ => blk_alloc hk⟩
theorem Kr.of_grown {w w' : World} {row : Option Nat} (hg : w.grownBy w' row) (hr : ∀ j, row = some j → ∃ cs t fr, w.heap[j]? = some (.cells cs t fr) ∧ t ≠ 67 ∧ t ≠ 5 ∧ t ≠ 22) : Kr w w' :=
  ⟨hg.size, fun k cs t fr hk ht => (hg.block k (Array.getElem?_eq_some_iff.1 hk).1 (fun e => by
    obtain ⟨cs', t', fr', hj, h1, h2, h3⟩ := hr k e.symm
    rw [hk] at hj; cases hj
    rcases ht with h | h | h
    · exact h1 h
    · exact h2 h
    · exact h3 h)).trans hk⟩
theorem own_block_cells {w : World} {base : Nat} {e : TypeId} {size n : Nat} {v : Value} {xs : List Value} (h : w.ownsRow base e size v n xs) : ∀ j, v.ownBlock = some j → ∃ cs fr, w.heap[j]? = some (.cells cs e fr) := by
  intro j hj
  rcases h.2 with ⟨rfl, _⟩ | ⟨g, cap, cur, rfl, _, hg, _⟩
  · simp [Value.ownBlock] at hj
  · obtain rfl : g = j := by simpa [Value.ownBlock] using hj
    exact ⟨_, _, hg⟩

theorem two_set {W : World} {B : Nat} {a b : Value} {t u : TypeId} (h0 : W.heap[B]? = some (.cells #[a] t (0, 0))) (h1 : W.heap[B + 1]? = some (.cells #[b] u (0, 0))) (x y : Value) :
    ((W.setCell ⟨B, 0, none⟩ x).setCell ⟨B + 1, 0, none⟩ y).heap[B]? = some (.cells #[x] t (0, 0)) ∧
    ((W.setCell ⟨B, 0, none⟩ x).setCell ⟨B + 1, 0, none⟩ y).heap[B + 1]? = some (.cells #[y] u (0, 0)) ∧
    KeepsOthers W ((W.setCell ⟨B, 0, none⟩ x).setCell ⟨B + 1, 0, none⟩ y) ∧ Below B W ((W.setCell ⟨B, 0, none⟩ x).setCell ⟨B + 1, 0, none⟩ y) := by
  have s0 := blk_set h0 0 x
  simp only [List.setIfInBounds_toArray, List.set_cons_zero] at s0
  have s1 := blk_set ((Below.heap_setCell W ⟨B, 0, none⟩ x (B + 1) (by simp)).trans h1) 0 y
  simp only [List.setIfInBounds_toArray, List.set_cons_zero] at s1
  exact ⟨(Below.heap_setCell _ ⟨B + 1, 0, none⟩ y B (by simp)).trans s0, s1, (KeepsOthers.setCell _ _ _).trans (KeepsOthers.setCell _ _ _),
    ((Below.refl B W).setCell (p := ⟨B, 0, none⟩) (Nat.le_refl _) _).setCell (p := ⟨B + 1, 0, none⟩) (Nat.le_succ _) _⟩

theorem app_all {W w1 : World} {B k m : Nat} {v v' a b : Value} {xs ys : List Value} {tmp : Obj} (h0 : Boxed W B 33 a) (h1 : Boxed W (B + 1) 24 b) (hv : Boxed W (B + 2) 33 v)
    (hrow : W.ownsRow B 3 1 v k xs) (hB : B ≤ W.heap.size) (hown : w1.ownsRow B 3 1 v' m ys) (hg : (W.alloc tmp).grownBy w1 v.ownBlock) :
    Boxed w1 (B + 2) 33 v ∧ KeepsOthers W (w1.setCell ⟨B + 2, 0, none⟩ v') ∧ Kr W (w1.setCell ⟨B + 2, 0, none⟩ v') ∧ Boxed (w1.setCell ⟨B + 2, 0, none⟩ v') B 33 a ∧ Boxed (w1.setCell ⟨B + 2, 0, none⟩ v') (B + 1) 24 b ∧
      Boxed (w1.setCell ⟨B + 2, 0, none⟩ v') (B + 2) 33 v' ∧ (w1.setCell ⟨B + 2, 0, none⟩ v').ownsRow B 3 1 v' m ys ∧ Below B W (w1.setCell ⟨B + 2, 0, none⟩ v') := by
  obtain ⟨hv1, hv2, hr2, hk2, hb2⟩ := hv.appended (by decide) hrow hB (by omega) hown hg
  have s0 : Boxed w1 B 33 a := (h0.alloc tmp).kept hg (h0.not_row (by decide) hrow)
  have s1 : Boxed w1 (B + 1) 24 b := (h1.alloc tmp).kept hg (h1.not_row (by decide) hrow)
  refine ⟨hv1, hk2, ?_, (Below.heap_setCell _ _ _ _ (by simp)).trans s0, (Below.heap_setCell _ _ _ _ (by simp)).trans s1, hv2, hr2, hb2⟩
  refine ((Kr.alloc W tmp).trans (Kr.of_grown hg fun j hj => ?_)).trans (Kr.of_grown (grownBy_setCell' w1 (B + 2) v') fun j hj => ?_)
  · obtain ⟨cs, fr, hc⟩ := own_block_cells (hrow.alloc tmp) j hj
    exact ⟨_, _, _, hc, by decide, by decide, by decide⟩
  · cases hj
    exact ⟨_, _, _, hv1, by decide, by decide, by decide⟩

set_option maxRecDepth 100000 in
set_option maxHeartbeats 2000000 in
theorem take_any (w : World) (A : Option Addr) (c : Nat) (bs : List Nat) (hr : RB w A bs) (hc : bs.length ≤ c) :
    Calls Try.prog 21 #[.slice A bs.length c] w fun e w' => ∃ v, e = .returned (.tuple #[v, .int .i64 (takeE bs : Int)]) ∧ w'.ownsRow w.heap.size 3 1 v (takeL bs).length (ni (takeL bs)) ∧ Below w.heap.size w w' := by
  refine (callsIn_wide (n := 9)).1 ?_
  by_cases h32 : bs.length < 32
  · have hv : takeE bs = 3 := by simp [takeE, h32]
    have hl : takeL bs = [] := by simp [takeL, h32]
    rw [hv, hl]
    have hd : ((bs.length : Int) < 32) := by omega
    refine callsIn_of_wp_marks Try.func21 rfl trivial ?_ rfl
    simp only [Try.ntmps21, List.size_toArray, List.length_cons, List.length_nil, Nat.reduceAdd, Nat.reduceSub, Array.replicate_succ, Array.replicate_zero, List.push_toArray, List.append_toArray, List.nil_append, List.cons_append]
    clear hr
    gi_wp2_with fail
    have e0 := blk_alloc (o' := .cells #[.int .i64 3] 24) (World.alloc_heap_new w (.cells #[.slice none 0 0] 33))
    have e1 := World.alloc_heap_new (w.alloc (.cells #[.slice none 0 0] 33)) (.cells #[.int .i64 3] 24)
    rw [World.size_alloc] at e1
    have c0 := cell_blk1 e0
    have c1 := cell_blk1 e1
    refine ⟨.tuple #[.slice none 0 0, .int .i64 3], ?_, .slice none 0 0, rfl, nil_row _ _, ((Below.refl _ w).alloc (Nat.le_refl _) _).alloc (by simp) _⟩
    simp [results, Try.f21, go_sem, c0, c1]
  · have hd : ¬ ((bs.length : Int) < 32) := by omega
    have hdl : decide ((bs.length : Int) < 32) = false := by rw [decide_eq_false_iff_not]; exact hd
    have hr2 := hr.take_ 32 (by omega)
    have hl2 : (bs.take 32).length = 32 := by simp; omega
    obtain ⟨E, hE⟩ : ∃ E, takeE bs = E := ⟨_, rfl⟩
    obtain ⟨L, hL⟩ : ∃ L, takeL bs = L := ⟨_, rfl⟩
    rw [hE, hL]
    have HL := Aside0.mk (show (E = if (onesOf bs).head? = some 0 then 0 else 13) ∧ (L = if (onesOf bs).head? = some 0 then onesOf bs else []) from ⟨by rw [← hE, takeE, if_neg h32], by rw [← hL, takeL, if_neg h32]⟩)
    have HR := Aside0.mk (And.intro hr2 hl2)
    have HN := Aside0.mk (show (onesOf bs).length ≤ 256 from by
      have := List.length_filter_le (tb (val (bs.take 32))) (List.range 256)
      rw [List.length_range] at this
      exact this)
    clear hr hr2 hl2 hE hL
    refine callsIn_of_wp_marks Try.func21 rfl trivial ?_ rfl
    simp only [Try.ntmps21, List.size_toArray, List.length_cons, List.length_nil, Nat.reduceAdd, Nat.reduceSub, Array.replicate_succ, Array.replicate_zero, List.push_toArray, List.append_toArray, List.nil_append, List.cons_append]
    gi_wp2_with (refine ⟨trivial, ?_⟩; gi_at_call 34; refine (callsIn_wide.2 (ones_any _ _ _ _)).mono ?_; rintro e w' ⟨rfl, rfl⟩)
    have hB0 := Aside0.mk (show Below w.heap.size w ((((w.alloc (.cells #[.slice none 0 0] 33)).alloc (.cells #[.int .i64 0] 24)).alloc (.cells #[.slice none 0 0] 33)).alloc (.cells #[.slice A 32 c] 22)) from
      ((((Below.refl _ w).alloc (Nat.le_refl _) _).alloc (by simp) _).alloc (by simp; omega) _).alloc (by simp; omega) _)
    have E := Aside0.mk (show ((((w.alloc (.cells #[.slice none 0 0] 33)).alloc (.cells #[.int .i64 0] 24)).alloc (.cells #[.slice none 0 0] 33)).alloc (.cells #[.slice A 32 c] 22)).heap[w.heap.size]? = some (.cells #[.slice none 0 0] 33 (0, 0)) ∧ ((((w.alloc (.cells #[.slice none 0 0] 33)).alloc (.cells #[.int .i64 0] 24)).alloc (.cells #[.slice none 0 0] 33)).alloc (.cells #[.slice A 32 c] 22)).heap[w.heap.size + 1]? = some (.cells #[.int .i64 0] 24 (0, 0)) ∧ ((((w.alloc (.cells #[.slice none 0 0] 33)).alloc (.cells #[.int .i64 0] 24)).alloc (.cells #[.slice none 0 0] 33)).alloc (.cells #[.slice A 32 c] 22)).heap[w.heap.size + 2]? = some (.cells #[.slice none 0 0] 33 (0, 0)) ∧ ((((w.alloc (.cells #[.slice none 0 0] 33)).alloc (.cells #[.int .i64 0] 24)).alloc (.cells #[.slice none 0 0] 33)).alloc (.cells #[.slice A 32 c] 22)).heap[w.heap.size + 3]? = some (.cells #[.slice A 32 c] 22 (0, 0)) from by
      refine ⟨blk_alloc (blk_alloc (blk_alloc (World.alloc_heap_new _ _))), blk_alloc (blk_alloc ?_), blk_alloc ?_, ?_⟩
      · have := World.alloc_heap_new (w.alloc (.cells #[.slice none 0 0] 33)) (.cells #[.int .i64 0] 24)
        rwa [World.size_alloc] at this
      · have := World.alloc_heap_new ((w.alloc (.cells #[.slice none 0 0] 33)).alloc (.cells #[.int .i64 0] 24)) (.cells #[.slice none 0 0] 33)
        rwa [World.size_alloc, World.size_alloc] at this
      · have := World.alloc_heap_new (((w.alloc (.cells #[.slice none 0 0] 33)).alloc (.cells #[.int .i64 0] 24)).alloc (.cells #[.slice none 0 0] 33)) (.cells #[.slice A 32 c] 22)
        rwa [World.size_alloc, World.size_alloc, World.size_alloc] at this)
    generalize (((w.alloc (.cells #[.slice none 0 0] 33)).alloc (.cells #[.int .i64 0] 24)).alloc (.cells #[.slice none 0 0] 33)).alloc (.cells #[.slice A 32 c] 22) = W0 at *
    have hBW := hB0.out.size
    refine wpIn_range_ones (by omega) rfl (by rw [HR.out.2]; exact cell_blk1 E.out.2.2.2) (HR.out.1.below hB0.out) HR.out.2 rfl
      (fun pre W => (pre = [] ∨ pre.head? = some 0) ∧ W.heap[w.heap.size]? = some (.cells #[.slice none 0 0] 33 (0, 0)) ∧ W.heap[w.heap.size + 1]? = some (.cells #[.int .i64 0] 24 (0, 0)) ∧ (∃ v, Boxed W (w.heap.size + 2) 33 v ∧ W.ownsRow w.heap.size 3 1 v pre.length (ni pre)) ∧ Below w.heap.size w W)
      (fun c pre W => (c = .ret ∧ pre ≠ [] ∧ pre.head? ≠ some 0) ∧ W.heap[w.heap.size]? = some (.cells #[.slice none 0 0] 33 (0, 0)) ∧ W.heap[w.heap.size + 1]? = some (.cells #[.int .i64 13] 24 (0, 0)) ∧ Below w.heap.size w W)
      (fun s W1 W2 hs hk => ⟨hs.1, hk.same _ _ _ _ hs.2.1 (by decide), hk.same _ _ _ _ hs.2.2.1 (by decide), by
        obtain ⟨v, hv, hrow⟩ := hs.2.2.2.1
        exact ⟨v, hk.same _ _ _ _ hv (by decide), own_kc hrow hk (by decide)⟩, hs.2.2.2.2.trans (hk.below.mono hBW)⟩)
      (fun c s W1 W2 hs hk => ⟨hs.1, hk.same _ _ _ _ hs.2.1 (by decide), hk.same _ _ _ _ hs.2.2.1 (by decide), hs.2.2.2.trans (hk.below.mono hBW)⟩)
      ⟨.inl rfl, E.out.1, E.out.2.1, ⟨_, E.out.2.2.1, nil_row _ _⟩, hB0.out⟩
      (fun y => { tmps := #[.slice A bs.length c, undef, .pointer (some ⟨w.heap.size, 0, none⟩), .pointer (some ⟨w.heap.size + 1, 0, none⟩), .pointer (some ⟨w.heap.size + 1 + 1, 0, none⟩), .int .i64 (y : Int), .slice A bs.length c, .int .i64 (bs.length : Int), .bool false, .slice A bs.length c, .slice A 32 c, .func (.func 39) #[] #[.pointer (some ⟨w.heap.size + 1 + 1 + 1, 0, none⟩)], .int .i64 (y : Int), undef, undef, undef, undef, undef, undef, undef, undef, undef, undef, undef, undef, undef, undef, undef], defers := [] })
      ?assign ?body ?done ?stop
    case assign =>
      intro l y W K hK
      gi_wp2
      exact hK
    case body =>
      rintro l pre y W ⟨hh, hc0, hc1, ⟨v, hv, hrow⟩, hBl⟩ hy hpy
      have HROW := Aside0.mk hrow
      obtain ⟨i0, hi, hz0, hz1, hz2⟩ := info_parts info_int
      obtain ⟨Ao, co, rfl⟩ := own_slice hrow
      have hlen := hrow.1
      have hx0 := cell_blk1 hc0
      have hx1 := cell_blk1 hc1
      have hf0 := blk_frozen hc0 0
      have hf1 := blk_frozen hc1 0
      have hxc := hv.cell
      have hxf := hv.frozen
      by_cases hp : pre = []
      · subst hp
        by_cases hy0 : y = 0
        · subst hy0
          have HROW := Aside0.mk (show W.ownsRow w.heap.size 3 1 (.slice Ao 0 co) 0 (ni []) from HROW.out)
          gi_wp2_with (gi_at_builtin; refine wpListIn_append_own _ rfl _ _ 33 rfl w.heap.size 3 i0 (.int .i64 0) 1 8 Try.underlying33 hi hz0 hz1 hz2 rfl (by decide) _ _ _ rfl (HROW.out.alloc _) ⟨W.heap.size, 0, none⟩ 1 1 [_] rfl rfl (cell_one_new _ _ _) (by simp [Value.oneCell']) (by simp only [maxLen]; omega) (by omega) (by have := hBl.size; simp; omega) ?_; intro v' w1 hown' hgrow _; obtain ⟨g', cap', rfl⟩ := ownsRow_succ hown'; have HA := Aside0.mk (app_all hc0 hc1 hv HROW.out hBl.size hown' hgrow); have hxc1 := HA.out.1.cell; have hxf1 := HA.out.1.frozen)
          have hrw : (w1.setCell ⟨w.heap.size + 2, 0, none⟩ (.slice (some ⟨g', 0, none⟩) 1 cap')).ownsRow w.heap.size 3 1 (.slice (some ⟨g', 0, none⟩) 1 cap') [0].length (ni [0]) := by
            have h := HA.out.2.2.2.2.2.2.1
            rw [ni_nil] at h
            exact h
          exact ⟨HA.out.2.1, HA.out.2.2.1, .inr rfl, HA.out.2.2.2.1, HA.out.2.2.2.2.1, ⟨_, HA.out.2.2.2.2.2.1, hrw⟩, hBl.trans HA.out.2.2.2.2.2.2.2⟩
        · have hyi : ¬ ((y : Int) = 0) := by omega
          have HT := Aside0.mk (two_set hc0 hc1 (.slice none 0 0) (.int .i64 13))
          gi_wp2
          exact ⟨HT.out.2.2.1, ⟨rfl, by simp, by simpa using hy0⟩, HT.out.1, HT.out.2.1, hBl.trans HT.out.2.2.2⟩
      · have hpl : ¬ ((pre.length : Int) = 0) := by
          have := List.length_pos_iff.2 hp
          omega
        have hh2 : pre.head? = some 0 := hh.resolve_left hp
        have hh3 : (pre ++ [y]).head? = some 0 := by
          cases pre with
          | nil => exact absurd rfl hp
          | cons a r => simpa using hh2
        have hyw := Aside0.mk (show ni (pre ++ [y]) = ni pre ++ [.int .i64 (y : Int)] ∧ (pre ++ [y]).length = pre.length + 1 from ⟨ni_snoc _ _, by simp⟩)
        have hh := Aside0.mk hh3
        clear hh2 hh3
        gi_wp2_with (gi_at_builtin; refine wpListIn_append_own _ rfl _ _ 33 rfl w.heap.size 3 i0 (.int .i64 0) 1 8 Try.underlying33 hi hz0 hz1 hz2 rfl (by decide) _ _ _ rfl (HROW.out.alloc _) ⟨W.heap.size, 0, none⟩ 1 1 [_] rfl rfl (cell_one_new _ _ _) (by simp [Value.oneCell']) (by simp only [maxLen]; omega) (by omega) (by have := hBl.size; simp; omega) ?_; intro v' w1 hown' hgrow _; obtain ⟨g', cap', rfl⟩ := ownsRow_succ hown'; have HA := Aside0.mk (app_all hc0 hc1 hv HROW.out hBl.size hown' hgrow); have hxc1 := HA.out.1.cell; have hxf1 := HA.out.1.frozen)
        refine ⟨HA.out.2.1, HA.out.2.2.1, .inr hh.out, HA.out.2.2.2.1, HA.out.2.2.2.2.1, ⟨_, HA.out.2.2.2.2.2.1, ?_⟩, hBl.trans HA.out.2.2.2.2.2.2.2⟩
        rw [hyw.out.1, hyw.out.2]
        exact HA.out.2.2.2.2.2.2.1
    case done =>
      rintro D W hD ⟨hh, hc0, hc1, ⟨v, hv, hrow⟩, hBl⟩ hK
      have hO : onesTo (val (bs.take 32)) 256 = onesOf bs := rfl
      rw [hO] at hh hrow
      generalize onesOf bs = O at *
      obtain ⟨Ao, co, rfl⟩ := own_slice hrow
      have hx0 := cell_blk1 hc0
      have hx1 := cell_blk1 hc1
      have hf0 := blk_frozen hc0 0
      have hf1 := blk_frozen hc1 0
      have hxc := hv.cell
      have hxf := hv.frozen
      have HROW := Aside0.mk hrow
      by_cases hO0 : O = []
      · subst hO0
        obtain ⟨hE, hL⟩ := HL.out
        rw [if_neg (by simp)] at hE hL
        subst hE hL
        have HT := Aside0.mk (two_set hc0 hc1 (.slice none 0 0) (.int .i64 13))
        clear HL hrow
        gi_wp2
        have hK' := HT.out.2.2.1.same D _ hK rfl
        refine ⟨by simp, .inl ⟨_, _, rfl, run_takeDeferred hK', ?_⟩⟩
        have kc := Kc.put (B := w.heap.size) (by omega) hK' rfl (.deferred none)
        have c0 := cell_blk1 (kc.same _ _ _ _ HT.out.1 (by decide))
        have c1 := cell_blk1 (kc.same _ _ _ _ HT.out.2.1 (by decide))
        refine ⟨.tuple #[.slice none 0 0, .int .i64 13], ?_, .slice none 0 0, rfl, nil_row _ _, (hBl.trans HT.out.2.2.2).trans kc.below⟩
        simp [results, Try.f21, go_sem, c0, c1]
      · obtain ⟨hE, hL⟩ := HL.out
        have hO1 := hh.resolve_left hO0
        rw [if_pos hO1] at hE hL
        subst hE hL
        have hpl : ¬ ((L.length : Int) = 0) := by
          have := List.length_pos_iff.2 hO0
          omega
        have HT := Aside0.mk (two_set hc0 hc1 (.slice Ao L.length co) (.int .i64 0))
        have HR2 := Aside0.mk (own_setCell (own_setCell hrow (p := ⟨w.heap.size, 0, none⟩) (own_ne hrow hc0 (by decide)) (.slice Ao L.length co)) (p := ⟨w.heap.size + 1, 0, none⟩) (own_ne hrow hc1 (by decide)) (.int .i64 0))
        clear HL hrow
        gi_wp2
        have hK' := HT.out.2.2.1.same D _ hK rfl
        refine ⟨by simp, .inl ⟨_, _, rfl, run_takeDeferred hK', ?_⟩⟩
        have kc := Kc.put (B := w.heap.size) (by omega) hK' rfl (.deferred none)
        have c0 := cell_blk1 (kc.same _ _ _ _ HT.out.1 (by decide))
        have c1 := cell_blk1 (kc.same _ _ _ _ HT.out.2.1 (by decide))
        refine ⟨.tuple #[.slice Ao L.length co, .int .i64 0], ?_, .slice Ao L.length co, rfl, own_kc HR2.out kc (by decide), (hBl.trans HT.out.2.2.2).trans kc.below⟩
        simp [results, Try.f21, go_sem, c0, c1]
    case stop =>
      rintro D c2 pre W hD hpre ⟨⟨rfl, hne, hh⟩, hc0, hc1, hBl⟩ hK
      have hx : (onesOf bs).head? ≠ some 0 := by
        obtain ⟨t, ht⟩ := hpre
        have ht' : pre ++ t = onesOf bs := ht
        cases pre with
        | nil => exact absurd rfl hne
        | cons a r => rw [← ht']; simpa using hh
      obtain ⟨hE, hL⟩ := HL.out
      rw [if_neg hx] at hE hL
      subst hE hL
      clear HL
      gi_wp2
      refine ⟨by simp, .inl ⟨_, _, rfl, run_takeDeferred hK, ?_⟩⟩
      have kc := Kc.put (B := w.heap.size) (by omega) hK rfl (.deferred none)
      have c0 := cell_blk1 (kc.same _ _ _ _ hc0 (by decide))
      have c1 := cell_blk1 (kc.same _ _ _ _ hc1 (by decide))
      refine ⟨.tuple #[.slice none 0 0, .int .i64 13], ?_, .slice none 0 0, rfl, nil_row _ _, hBl.trans kc.below⟩
      simp [results, Try.f21, go_sem, c0, c1]
end Go.Proofs.Ytdgomddbppgkmaa.Dir
