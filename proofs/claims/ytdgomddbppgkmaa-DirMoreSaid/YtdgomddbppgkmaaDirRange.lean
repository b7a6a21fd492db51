/- Proved here: what the iterator of package dir does with a loop's rounds (it hands over, in order, where bits of the bytes are 1, and keeps a reader of its own in memory), and the law of a loop over it. Conditions: each theorem's own. -/
import Derived.RangeFuncNested
import Derived.RangeFuncBound
import Derived.RangeFuncCalls
import Derived.RangeFuncLeaves
import Derived.Shelf.Abstract
import Derived.Shelf.RegionOpen
import Derived.WalkKit
import Derived.OwnWalkIn
import Derived.TacticsInMore
import Derived.LoopNIn
import Derived.LoopIn
import Derived.Test.YtdgomddbppgkmaaDirWalks
namespace Go.Proofs.Ytdgomddbppgkmaa.Dir
open Go.RowKit Go.Shelf Go.Proofs.YtdgomddbppgkmaaW.PrintWords Go.Proofs.Ytdgomddbppgkmaa.CrcM Go.Proofs.Ytdgomddbppgkmaa.BitsM Go.Proofs.Ytdgomddbppgkmaa.Base Go.Proofs.Ytdgomddbppgkmaa.Bitw
attribute [local go_sem] Oper.semAt_some

def tb (V i : Nat) : Bool := V / 2 ^ i % 2 == 1
/-- Where the bits below the k-th are 1. -/
def onesTo (V k : Nat) : List Nat := (List.range k).filter (tb V)
theorem onesTo_succ (V k : Nat) : onesTo V (k + 1) = onesTo V k ++ (if tb V k then [k] else []) := by
  rw [onesTo, List.range_succ, List.filter_append]
  congr 1
  by_cases h : tb V k <;> simp [h]
theorem onesTo_len (V k : Nat) : (onesTo V k).length ≤ k := by
  have := List.length_filter_le (tb V) (List.range k)
  rw [List.length_range] at this
  exact this
theorem onesTo_prefix (V k n : Nat) (h : k ≤ n) : onesTo V k <+: onesTo V n := by
  induction n with
  | zero => obtain rfl : k = 0 := by omega
            exact List.prefix_refl _
  | succ n ih =>
    by_cases e : k = n + 1
    · rw [e]; exact List.prefix_refl _
    · rw [onesTo_succ]; exact (ih (by omega)).trans (List.prefix_append _ _)

/-- What the iterator's own steps keep: all but blocks of readers that are younger than the iterator's call. -/
structure Kn (B : Nat) (w w' : World) : Prop where
  below : Below B w w'
  same : ∀ (k : Nat) (o : Obj), w.heap[k]? = some o → (∀ cs fr, o ≠ .cells cs 67 fr) → w'.heap[k]? = some o
theorem Kn.of_below {B : Nat} {w w' : World} (h : Below w.heap.size w w') (hB : B ≤ w.heap.size) : Kn B w w' :=
  ⟨h.mono hB, fun k _ hk _ => (h.block k (Array.getElem?_eq_some_iff.1 hk).1).trans hk⟩
theorem Kn.of_keep {B g : Nat} {w w' : World} {cs : Array Value} {fr : Nat × Nat} (h : Keep (fun i => i = g) w w') (hB : B ≤ w.heap.size) (hg : B ≤ g) (hb : w.heap[g]? = some (.cells cs 67 fr)) : Kn B w w' :=
  ⟨h.below hB (fun i e => by omega), fun k _ hk ho => by
    have hne : k ≠ g := fun e => by subst e; rw [hb] at hk; cases hk; exact ho _ _ rfl
    exact (h.block k (Array.getElem?_eq_some_iff.1 hk).1 hne).trans hk⟩

set_option maxRecDepth 100000 in
set_option maxHeartbeats 2000000 in
theorem ones1_in (n : Nat) (hn : 1 ≤ n) (l Bb : Nat) (A : Option Addr) (c : Nat) (bs : List Nat) (J Jx : List Nat → World → Prop) (W : World)
    (hb : W.cell? ⟨Bb, 0, none⟩ = some (.slice A bs.length c)) (hr : RB W A bs) (h32 : bs.length = 32)
    (hJ : ∀ s W1 W2, J s W1 → Kn W.heap.size W1 W2 → J s W2)
    (hY : ∀ (pre : List Nat) (x : Nat) (W1 : World), J pre W1 → x < 256 → pre.length ≤ x → YieldAt Fence.wide (n - 1) Try.prog l #[.int .i64 (x : Int)] W1 fun e W' =>
      (e = .returned (.bool true) ∧ J (pre ++ [(x : Nat)]) W' ∧ Kr W1 W') ∨ (e = .returned (.bool false) ∧ Jx (pre ++ [(x : Nat)]) W'))
    (h0 : J [] W) :
    CallsIn Fence.wide n Try.prog 39 #[.func (.yield l) #[] #[], .pointer (some ⟨Bb, 0, none⟩)] W fun e W' => (∃ v, e = .returned v) ∧
      (J (onesTo (val bs) 256) W' ∨ ∃ pre, pre <+: onesTo (val bs) 256 ∧ Jx pre W') := by
  have HV : ∃ V, val bs = V := ⟨_, rfl⟩
  obtain ⟨V, hV⟩ := HV
  rw [hV]
  refine callsIn_of_wp Try.func39 rfl trivial ?_ rfl
  simp only [Try.ntmps39, List.size_toArray, List.length_cons, List.length_nil, Nat.reduceAdd, Nat.reduceSub, Array.replicate_succ, Array.replicate_zero, List.push_toArray, List.append_toArray, List.nil_append, List.cons_append]
  have hnew := fnew_any W A c bs hr (by omega)
  rw [h32] at hnew
  clear hr
  gi_wp2_with (refine ⟨trivial, ?_⟩; gi_at_call 40; refine (callsIn_wide.2 hnew).mono ?_; clear hnew; rintro e w1 ⟨g, v, rfl, hR, hB⟩)
  have HR := Aside0.mk hR
  have HJ := Aside0.mk (hJ _ _ _ h0 (Kn.of_below hB (Nat.le_refl _)))
  have hz := hB.size
  clear hR hB h0 hb
  generalize hW0 : W.heap.size = B0 at *
  gi_loopw [9] (fun i wr => ∃ k : Nat, k ≤ 256 ∧ i = .int .i64 k ∧ B0 ≤ wr.heap.size ∧ Aside0 (Rf wr B0 g v bs k) ∧ Aside0 (J (onesTo V k) wr)) (fun i _ => 256 - (intOf i).toNat)
  case atStart => exact ⟨0, by omega, rfl, hz, HR, HJ⟩
  case round =>
    obtain ⟨k, hk, rfl, hz2, HR2, HJ2⟩ := hrel
    by_cases hlt : k < 256
    · have htk := ftake_any wr B0 g k v bs HR2.out (by omega) (by omega)
      rw [hV] at htk
      have hxk : IntKind.i64.wrap ((k : Int) + 1) = ((k + 1 : Nat) : Int) := by rw [IntWalk.i64_in ((k : Int) + 1) (by omega)]; omega
      by_cases hbit : V / 2 ^ k % 2 = 1
      · have HS := Aside0.mk (show onesTo V (k + 1) = onesTo V k ++ [k] from by rw [onesTo_succ, if_pos (by simp [tb, hbit])])
        rw [hbit] at htk
        have HB := Aside0.mk hbit
        clear hbit
        gi_wp2_with (refine ⟨trivial, ?_⟩; gi_at_call 41; refine (callsIn_wide.2 htk).mono ?_; clear htk; rintro e w2 ⟨rfl, hR3, hK3⟩; have HR3 := Aside0.mk hR3; have hJ3 := hJ _ _ _ HJ2.out (Kn.of_keep hK3 hz2 HR2.out.base HR2.out.blk); have hz3 := hK3.size; clear hR3 hK3; obtain ⟨fn, tmps, assign, body, hy, hRo⟩ := hY _ k _ hJ3 hlt (onesTo_len V k))
        refine hRo.mono ?_
        rintro e W3 (⟨rfl, hJ4, hk4⟩ | ⟨rfl, hJx4⟩)
        · gi_wp2
          go_roundw
          case rel => exact ⟨k + 1, by omega, rfl, by have := hk4.size; omega, ⟨HR3.out.kept hk4⟩, ⟨by rw [HS.out]; exact hJ4⟩⟩
          case measure => simp [intOf]; omega
        · gi_wp2
          refine bodyPost_ret (results_none rfl _ _ _) rfl ?_
          exact ⟨⟨_, rfl⟩, .inr ⟨onesTo V k ++ [k], by rw [← HS.out]; exact onesTo_prefix V (k + 1) 256 hlt, hJx4⟩⟩
      · have hbit0 : V / 2 ^ k % 2 = 0 := by omega
        have HS := Aside0.mk (show onesTo V (k + 1) = onesTo V k from by rw [onesTo_succ, if_neg (by simp [tb, hbit0])]; simp)
        rw [hbit0] at htk
        clear hbit hbit0
        gi_wp2_with (refine ⟨trivial, ?_⟩; gi_at_call 41; refine (callsIn_wide.2 htk).mono ?_; clear htk; rintro e w2 ⟨rfl, hR3, hK3⟩; have HR3 := Aside0.mk hR3; have HJ3 := Aside0.mk (hJ _ _ _ HJ2.out (Kn.of_keep hK3 hz2 HR2.out.base HR2.out.blk)); have hz3 := hK3.size; clear hR3 hK3)
        refine ⟨fun _ h => (by cases h), ?_⟩
        gi_wp2_with (refine ⟨fun _ h => (by cases h), ?_⟩)
        go_roundw
        case rel => exact ⟨k + 1, by omega, rfl, by omega, HR3, ⟨by rw [HS.out]; exact HJ3.out⟩⟩
        case measure => simp [intOf]; omega
    · obtain rfl : k = 256 := by omega
      gi_wp2_with fail
      go_end0
      exact ⟨⟨_, rfl⟩, .inl HJ2.out⟩

set_option maxRecDepth 100000 in
set_option maxHeartbeats 400000 in
theorem ones_any (w : World) (A : Option Addr) (n c : Nat) :
    Calls Try.prog 34 #[.slice A n c] w fun e w' => e = .returned (.func (.func 39) #[] #[.pointer (some ⟨w.heap.size, 0, none⟩)]) ∧ w' = w.alloc (.cells #[.slice A n c] 22) := by
  go_enter Try.func34, Try.ntmps34
  go_wp2_with fail
  go_ret
  exact ⟨rfl, rfl⟩

/-- What a loop's machinery and the iterator keep together: what lay below, and all cells but readers'. -/
structure Kc (B : Nat) (w w' : World) : Prop where
  below : Below B w w'
  same : ∀ (k : Nat) (cs : Array Value) (t : TypeId) (fr : Nat × Nat), w.heap[k]? = some (.cells cs t fr) → t ≠ 67 → w'.heap[k]? = some (.cells cs t fr)
theorem Kn.kc {B : Nat} {w w' : World} (h : Kn B w w') : Kc B w w' :=
  ⟨h.below, fun k _ _ _ hk ht => h.same k _ hk (fun _ _ e => by cases e; exact ht rfl)⟩
theorem Kc.of_below {B : Nat} {w w' : World} (h : Below w.heap.size w w') (hB : B ≤ w.heap.size) : Kc B w w' :=
  (Kn.of_below h hB).kc
theorem Kc.mono {B B' : Nat} {w w' : World} (h : Kc B w w') (hB : B' ≤ B) : Kc B' w w' := ⟨h.below.mono hB, h.same⟩
theorem Kc.put {B l : Nat} {w : World} {o : Obj} (hl : B ≤ l) (h : w.heap[l]? = some o) (ho : o.isCells = false) (o' : Obj) : Kc B w (w.putObj l o') :=
  ⟨⟨rfl, rfl, rfl, by simp, fun k hk => World.putObj_heap_other (by omega)⟩, fun k cs t fr hk _ => by
    by_cases e : k = l
    · subst e; rw [h] at hk; cases hk; cases ho
    · exact (World.putObj_heap_other e).trans hk⟩
theorem Kr.put {l : Nat} {w : World} {o : Obj} (h : w.heap[l]? = some o) (ho : o.isCells = false) (o' : Obj) : Kr w (w.putObj l o') :=
  ⟨by simp, fun k cs t fr hk _ => by
    by_cases e : k = l
    · subst e; rw [h] at hk; cases hk; cases ho
    · exact (World.putObj_heap_other e).trans hk⟩

/-- The loop's record lies at D + 1, the block for what rounds put off at D. -/
def Held (D : Nat) (r : Loop) (w : World) : Prop := w.heap[D + 1]? = some (.loop r) ∧ w.heap[D]? = some (.deferred (some []))
theorem Held.kn {B D : Nat} {r : Loop} {w w' : World} (h : Held D r w) (hk : Kn B w w') : Held D r w' :=
  ⟨hk.same _ _ h.1 (fun _ _ e => by cases e), hk.same _ _ h.2 (fun _ _ e => by cases e)⟩
theorem Held.body {D : Nat} {r : Loop} {w w' : World} (h : Held D r w) (hk : KeepsOthers w w') : Held D r w' :=
  ⟨hk.same _ _ h.1 rfl, hk.same _ _ h.2 rfl⟩
theorem Held.put {D : Nat} {r : Loop} {w : World} (h : Held D r w) (r' : Loop) : Held D r' (w.putObj (D + 1) (.loop r')) :=
  ⟨World.putObj_heap_same (Array.getElem?_eq_some_iff.1 h.1).1, (World.putObj_heap_other (by omega)).trans h.2⟩

set_option maxHeartbeats 1000000 in
theorem wpIn_range_ones {n : Nat} {g : Operand} {ps : Array Tmp} {assign body : Code} {Q : Exit → Act → World → Prop} {a : Act} {w : World} (hn : 2 ≤ n)
    {Bb c : Nat} {A : Option Addr} {bs : List Nat} (hg : a.eval g = .func (.func 39) #[] #[.pointer (some ⟨Bb, 0, none⟩)])
    (hb : w.cell? ⟨Bb, 0, none⟩ = some (.slice A bs.length c)) (hr : RB w A bs) (h32 : bs.length = 32) (hps : ps.size = 1)
    (I : List Nat → World → Prop) (Ix : Code → List Nat → World → Prop)
    (hI : ∀ s W W', I s W → Kc w.heap.size W W' → I s W') (hIx : ∀ c s W W', Ix c s W → Kc w.heap.size W W' → Ix c s W') (h0 : I [] w) (a₁ : Nat → Act)
    (hassign : ∀ (l x : Nat) (W : World) (K : Act → World → Prop), K (a₁ x) W →
      assign.wpIn (Fence.wide.inRound l) (n - 1 - 1) Try.prog (Exit.then K (fun _ _ _ => False)) { tmps := (ps.zip #[.int .i64 (x : Int)]).foldl (fun t (p, v) => t.setIfInBounds p v) a.tmps, defers := [] } W)
    (hbody : ∀ (l : Nat) (pre : List Nat) (x : Nat) (W : World), I pre W → x < 256 → pre.length ≤ x → body.wpIn (Fence.wide.inRound l) (n - 1 - 1) Try.prog (ownPostK Kr I Ix (pre ++ [x]) W) (a₁ x) W)
    (hdone : ∀ (D : Nat) (W : World), w.heap.size ≤ D → I (onesTo (val bs) 256) W → W.heap[D]? = some (.deferred (some [])) → Q .normal { a with defers := { target := .collected D, args := #[] } :: a.defers } W)
    (hstop : ∀ (D : Nat) (c : Code) (pre : List Nat) (W : World), w.heap.size ≤ D → pre <+: onesTo (val bs) 256 → Ix c pre W → W.heap[D]? = some (.deferred (some [])) → c.wpIn Fence.wide n Try.prog Q { a with defers := { target := .collected D, args := #[] } :: a.defers } W) :
    (Code.rangeFunc g ps assign body).wpIn Fence.wide n Try.prog Q a w := by
  refine wpIn_rangeFunc (fun fn hfn => ?_)
  obtain ⟨R, hR⟩ : ∃ R : LoopState → Option Code → Loop, R = fun s j => { state := s, pending := j, fn, tmps := a.tmps, params := ps, assign, body, defers := w.heap.size } := ⟨_, rfl⟩
  have eR : ∀ s j s' j', { R s j with state := s', pending := j' } = R s' j' := by rw [hR]; intros; rfl
  have eB : ∀ s j, { R s j with state := .busy } = R .busy j := by rw [hR]; intros; rfl
  have eE : ∀ s j, { R s j with state := .exhausted } = R .exhausted j := by rw [hR]; intros; rfl
  have ab : Below w.heap.size w ((w.alloc (.deferred (some []))).alloc (.loop (R .ready none))) := ((Below.refl _ w).alloc (Nat.le_refl _) _).alloc (by simp) _
  have hH : Held w.heap.size (R .ready none) ((w.alloc (.deferred (some []))).alloc (.loop (R .ready none))) :=
    ⟨by have := World.alloc_heap_new (w.alloc (.deferred (some []))) (.loop (R .ready none)); rwa [World.size_alloc] at this, (Below.heap_alloc _ _ _ (by simp)).trans (World.alloc_heap_new w _)⟩
  have hrun := run_enterLoop_outer (P := Try.prog) (w := w) fn a.tmps ps assign body
  have eW : (w.alloc (.deferred (some []))).alloc (.loop { state := .ready, pending := none, fn, tmps := a.tmps, params := ps, assign, body, defers := w.heap.size }) = (w.alloc (.deferred (some []))).alloc (.loop (R .ready none)) := by rw [hR]
  rw [eW] at hrun
  generalize (w.alloc (.deferred (some []))).alloc (.loop (R .ready none)) = W1 at *
  have hsz := ab.size
  have hBb : Bb < w.heap.size := by
    obtain ⟨o, ho, _⟩ := cells_of_cell hb
    exact (Array.getElem?_eq_some_iff.1 ho).1
  refine ⟨w.heap.size + 1, [{ target := .collected w.heap.size, args := #[] }], W1, { target := .fn (.func 39) #[.pointer (some ⟨Bb, 0, none⟩)], args := #[.func (.yield (w.heap.size + 1)) #[] #[]] }, W1, 39,
    #[.func (.yield (w.heap.size + 1)) #[] #[]] ++ #[.pointer (some ⟨Bb, 0, none⟩)], W1, hrun, ?_, fun f' _ => trivial, ?_, fun _ => by omega, ?_⟩
  · simp only [resolve, hg]
    simp [go_sem]
  · simp [invoke, go_sem]
  refine (ones1_in (n - 1) (by omega) (w.heap.size + 1) Bb A c bs (fun pre W => I pre W ∧ Held w.heap.size (R .ready none) W) (fun pre W => ∃ j, Ix j pre W ∧ Held w.heap.size (R .done (some j)) W) W1
    ((ab.cell (p := ⟨Bb, 0, none⟩) hBb).trans hb) (hr.below ab) h32 (fun s A B hs hk => ⟨hI _ _ _ hs.1 (hk.kc.mono hsz), hs.2.kn hk⟩) ?_ ⟨hI _ _ _ h0 (.of_below ab (Nat.le_refl _)), hH⟩).mono ?_
  · rintro pre x W ⟨hi, hh⟩ hx hpx
    have hy := run_yield (P := Try.prog) (args := #[.int .i64 (x : Int)]) hh.1 (by rw [hR]; simp [hps])
    have hy2 : (Instr.yield (w.heap.size + 1) #[.int .i64 (x : Int)]).run Try.prog W = .ok (.round (w.heap.size + 1) fn ((ps.zip #[.int .i64 (x : Int)]).foldl (fun t (p, v) => t.setIfInBounds p v) a.tmps) assign body) W := by
      rw [hR] at hy; exact hy
    have hbe := run_beginRound (P := Try.prog) hh.1 (by rw [hR])
    rw [eB] at hbe
    have hh2 := hh.put (R .busy none)
    have k1 := Kc.put (B := w.heap.size) (Nat.le_succ _) hh.1 rfl (.loop (R .busy none))
    have r1 := Kr.put hh.1 rfl (.loop (R .busy none))
    refine ⟨_, _, _, _, hy2, roundIn_of_wpIn trivial (hassign _ x W _ ⟨_, hbe, ?_⟩)⟩
    generalize W.putObj (w.heap.size + 1) (.loop (R .busy none)) = W2 at *
    refine wpIn_mono (hbody _ pre x W2 (hI _ _ _ hi k1) hx hpx) ?_
    have fin : ∀ (j : Option Code) (W3 : World), KeepsOthers W2 W3 → ∃ W4, (Instr.endRound (w.heap.size + 1) j).run Try.prog W3 = .ok (.bool j.isNone) W4 ∧
        Held w.heap.size (R (if j.isNone then .ready else .done) j) W4 ∧ Kc w.heap.size W3 W4 ∧ Kr W3 W4 := fun j W3 hk => by
      have h3 := hh2.body hk
      have he := run_endRound (P := Try.prog) j h3.1
      rw [eR] at he
      exact ⟨_, he, h3.put _, Kc.put (Nat.le_succ _) h3.1 rfl _, Kr.put h3.1 rfl _⟩
    intro e a3 W3 hp
    cases e with
    | normal =>
      obtain ⟨hk, hr3, hi3⟩ := hp
      obtain ⟨W4, he, h4, k4, r4⟩ := fin none W3 hk
      exact ⟨_, _, he, .inl ⟨rfl, ⟨hI _ _ _ hi3 k4, h4⟩, (r1.trans hr3).trans r4⟩⟩
    | ret =>
      obtain ⟨hk, hi3⟩ := hp
      obtain ⟨W4, he, h4, k4, r4⟩ := fin (some .ret) W3 hk
      exact ⟨_, _, he, .inr ⟨rfl, _, hIx _ _ _ _ hi3 k4, h4⟩⟩
    | exit id =>
      obtain ⟨hk, hi3⟩ := hp
      obtain ⟨W4, he, h4, k4, r4⟩ := fin (some (.exit id)) W3 hk
      exact ⟨_, _, he, .inr ⟨rfl, _, hIx _ _ _ _ hi3 k4, h4⟩⟩
    | goto t =>
      obtain ⟨hk, hi3⟩ := hp
      obtain ⟨W4, he, h4, k4, r4⟩ := fin (some (.goto t)) W3 hk
      exact ⟨_, _, he, .inr ⟨rfl, _, hIx _ _ _ _ hi3 k4, h4⟩⟩
    | panic ch => exact hp.elim
    | outgrown => exact hp.elim
  · rintro e W2 ⟨⟨v, rfl⟩, (⟨hi, hh⟩ | ⟨pre, hpre, j, hi, hh⟩)⟩
    · have he := run_endLoop (P := Try.prog) hh.1 (by rw [hR]; simp)
      rw [eE] at he
      have ep : (R .ready none).pending = none := by rw [hR]
      rw [ep] at he
      exact ⟨none, _, he, hdone _ _ (Nat.le_refl _) (hI _ _ _ hi (Kc.put (Nat.le_succ _) hh.1 rfl _)) (hh.put _).2⟩
    · have he := run_endLoop (P := Try.prog) hh.1 (by rw [hR]; simp)
      rw [eE] at he
      have ep : (R .done (some j)).pending = some j := by rw [hR]
      rw [ep] at he
      exact ⟨some j, _, he, hstop _ j pre _ (Nat.le_refl _) hpre (hIx _ _ _ _ hi (Kc.put (Nat.le_succ _) hh.1 rfl _)) (hh.put _).2⟩
end Go.Proofs.Ytdgomddbppgkmaa.Dir
