/- Proved here: small facts on memory that all walks of this place use: bytes that are read, said as a list of natural numbers; no program in it. Conditions: each theorem's own. -/
import Derived.Test.YtdgomddbppgkmaaWWords
import Derived.Laws.BitsAllLaws
import Derived.Lib.SlBytesConst
import Derived.Lib.Bytes
namespace Go.Proofs.Ytdgomddbppgkmaa.Base
open Go.RowKit Go.Proofs.YtdgomddbppgkmaaW.PrintWords

theorem ret_int {k : IntKind} {a b : Int} (h : a = b) : Ending.returned (.int k a) = .returned (.int k b) := by rw [h]
theorem div_pow_cast (x k : Nat) : ((x : Int) / 2 ^ k) = ((x / 2 ^ k : Nat) : Int) := by simp
theorem ret_bool {a b : Bool} (h : a = b) : Ending.returned (.bool a) = .returned (.bool b) := by rw [h]
/-! bytes that are read -/
def RB (w : World) (A : Option Addr) (bs : List Nat) : Prop := (∀ b ∈ bs, b < 256) ∧ ReadsInt w .u8 A bs.length (bs.map fun b : Nat => (b : Int))
theorem RB.at_ {w : World} {A : Option Addr} {bs : List Nat} (h : RB w A bs) (k : Nat) (hk : k < bs.length) :
    ∃ ad, A = some ad ∧ w.cell? (ad.add k) = some (.int .u8 ((bs.getD k 0 : Nat) : Int)) := by
  obtain ⟨ad, e, hc⟩ := h.2.2.2 (by omega)
  refine ⟨ad, e, ?_⟩
  rw [hc k hk]
  simp [List.getD_eq_getElem?_getD, List.getElem?_eq_getElem hk]
theorem RB.lt {w : World} {A : Option Addr} {bs : List Nat} (h : RB w A bs) (k : Nat) : bs.getD k 0 < 256 := by
  rcases Nat.lt_or_ge k bs.length with hk | hk
  · rw [List.getD_eq_getElem?_getD, List.getElem?_eq_getElem hk]; exact h.1 _ (List.getElem_mem hk)
  · rw [List.getD_eq_getElem?_getD, List.getElem?_eq_none hk]; simp
theorem RB.below {w w1 : World} {A : Option Addr} {bs : List Nat} (h : RB w A bs) (hb : Below w.heap.size w w1) : RB w1 A bs := ⟨h.1, h.2.below hb⟩
theorem RB.take_ {w : World} {A : Option Addr} {bs : List Nat} (h : RB w A bs) (n : Nat) (hn : n ≤ bs.length) : RB w A (bs.take n) := by
  refine ⟨fun b hb => h.1 b (List.mem_of_mem_take hb), ?_⟩
  have e : (bs.take n).length = n := by simp; omega
  rw [e, List.map_take]
  exact h.2.take_ n hn
theorem below_of_drew {w w1 : World} (h : Below w.drew.heap.size w.drew w1) : Below w.heap.size w w1 := ⟨h.os, h.tape, h.output, h.size, h.block⟩
theorem below_of_drewN {w w1 : World} {n : Nat} (h : Below (w.drewN n).heap.size (w.drewN n) w1) : Below w.heap.size w w1 := ⟨h.os, h.tape, h.output, h.size, h.block⟩
theorem RB.nil (w : World) : RB w none [] := ⟨by simp, by simp, by simp, fun h => by simp at h⟩
theorem RB.of_alloc (w : World) (e : TypeId) (fr : Nat × Nat) (bs : List Nat) (hb : ∀ b ∈ bs, b < 256) (hm : bs.length ≤ 1000000) :
    RB (w.alloc (.cells (bs.map fun b : Nat => Value.int .u8 (b : Int)).toArray e fr)) (some ⟨w.heap.size, 0, none⟩) bs := by
  refine ⟨hb, by simp, by omega, fun _ => ⟨_, rfl, fun j hj => ?_⟩⟩
  rw [add_plain, cell_of_row _ _ _ _ e fr (heap_alloc_new w _)]
  simp [List.getD_eq_getElem?_getD, hj]

/-! strings of bytes -/
theorem str_eq (xs ys : List Nat) (hx : ∀ b ∈ xs, b < 256) (hy : ∀ b ∈ ys, b < 256) :
    ((strOfNums (xs.map fun b : Nat => (b : Int))).toList == (strOfNums (ys.map fun b : Nat => (b : Int))).toList) = (xs == ys) := by
  have key : ∀ a b : List Nat, (∀ x ∈ a, x < 256) → (∀ x ∈ b, x < 256) → a.map UInt8.ofNat = b.map UInt8.ofNat → a = b := by
    intro a
    induction a with
    | nil => intro b _ _ h; cases b with
      | nil => rfl
      | cons _ _ => simp at h
    | cons x a ih =>
      intro b ha hb h
      cases b with
      | nil => simp at h
      | cons y b =>
        simp only [List.map_cons, List.cons.injEq] at h
        have h1 := congrArg UInt8.toNat h.1
        have hx := ha x (by simp)
        have hy := hb y (by simp)
        simp only [UInt8.toNat_ofNat'] at h1
        rw [ih b (fun z hz => ha z (by simp [hz])) (fun z hz => hb z (by simp [hz])) h.2]
        congr 1
        omega
  have e : ∀ a : List Nat, (strOfNums (a.map fun b : Nat => (b : Int))).toList = a.map UInt8.ofNat := by
    intro a
    rw [Lib.toList_data, strOfNums_data, List.map_map]
    apply List.map_congr_left
    intro x _
    simp
  rw [e, e]
  by_cases h : xs = ys
  · subst h; simp
  · have : ¬ xs.map UInt8.ofNat = ys.map UInt8.ofNat := fun e => h (key xs ys hx hy e)
    rw [beq_eq_false_iff_ne.2 h, beq_eq_false_iff_ne.2 this]

theorem RB.str {P : Program} {src dst e : TypeId} {w : World} {A : Option Addr} {bs : List Nat} {c : Nat} (hs : P.underlying src = some (.slice e)) (he : P.underlying e = some (.int .u8)) (hd : P.underlying dst = some .string) (h : RB w A bs) :
    (convert src dst (.slice A bs.length c)).run P w = .ok (.string (strOfNums (bs.map fun b : Nat => (b : Int)))) w := string_of_reads hs he hd h.2

/-! bytes of the call's own, appended to -/
def nb (bs : List Nat) : List Value := nums .u8 (bs.map fun b : Nat => (b : Int))
def OB (w : World) (base : Nat) (e : TypeId) (v : Value) (bs : List Nat) : Prop := (∀ b ∈ bs, b < 256) ∧ w.ownsRow base e 1 v bs.length (nb bs)
theorem OB.reads {w : World} {base : Nat} {e : TypeId} {v : Value} {bs : List Nat} (h : OB w base e v bs) : ∃ A c, v = .slice A bs.length c ∧ RB w A bs := by
  obtain ⟨A, c, e1, h1⟩ := own_reads h.2
  exact ⟨A, c, e1, h.1, h1⟩
theorem OB.nil (w : World) (base : Nat) (e : TypeId) : OB w base e (.slice none 0 0) [] := ⟨by simp, own_nil _ _ _ _⟩
theorem OB.lit (w : World) (base : Nat) (e : TypeId) (bs : List Nat) (hb : ∀ b ∈ bs, b < 256) (hbase : base ≤ w.heap.size) (hm : bs.length ≤ 9223372036854775807) :
    OB (w.alloc (.cells (nb bs).toArray e)) base e (.slice (some ⟨w.heap.size, 0, none⟩) bs.length bs.length) bs := by
  have h := own_lit w base e .u8 (bs.map fun b : Nat => (b : Int)) hbase (by simpa using hm)
  rw [List.length_map] at h
  exact ⟨hb, h⟩
theorem OB.below {w w1 : World} {base : Nat} {e : TypeId} {v : Value} {bs : List Nat} (h : OB w base e v bs) (hb : Below w.heap.size w w1) : OB w1 base e v bs := ⟨h.1, pw_own_below h.2 hb⟩
theorem OB.drew {w : World} {base : Nat} {e : TypeId} {v : Value} {bs : List Nat} (h : OB w base e v bs) : OB w.drew base e v bs := ⟨h.1, h.2.drew⟩
theorem OB.drewN {w : World} {base : Nat} {e : TypeId} {v : Value} {bs : List Nat} (h : OB w base e v bs) (n : Nat) : OB (w.drewN n) base e v bs := h
theorem RB.drewN {w : World} {A : Option Addr} {bs : List Nat} (h : RB w A bs) (n : Nat) : RB (w.drewN n) A bs := h
theorem RB.drew {w : World} {A : Option Addr} {bs : List Nat} (h : RB w A bs) : RB w.drew A bs := h
theorem OB.kept {w w1 : World} {base : Nat} {e : TypeId} {v : Value} {bs : List Nat} {row : Option Nat} (h : OB w base e v bs) (hg : w.grownBy w1 row) (hne : v.ownBlock = none ∨ v.ownBlock ≠ row) : OB w1 base e v bs := ⟨h.1, own_other h.2 hg hne⟩
section
variable {P : Program} {ops : Array Oper} {rest : List Oper} {o : Oper} {a : Act} {Q : Exit → Act → World → Prop}
/-- append(v, ys...) of bytes, v of the call's own; behind 'at_builtin'. -/
theorem OB.append {w0 W : World} (base : Nat) (hgd : o.guard = none) (s x : Operand) (t e : TypeId)
    (ho : o.op = .call { callee := .builtin .append, args := #[s, x], argTypes := #[t, t] })
    (ht : P.underlying t = some (.slice e)) (hinfo : (P.info? e).map (fun i => (i.zero, i.size, i.bytes)) = some (some (.int .u8 0), 1, 1))
    (v : Value) (xs ys : List Nat) (A : Option Addr) (c : Nat) (hs : a.eval s = v) (hx : a.eval x = .slice A ys.length c)
    (HO : OB W base e v xs) (HR : RB W A ys) (HB : Below base w0 W) (hbase : base ≤ W.heap.size) (hl : xs.length + ys.length ≤ 140737488355328)
    (h : ∀ v1 w1, OB w1 base e v1 (xs ++ ys) → Below base w0 w1 → W.grownBy w1 v.ownBlock → (v1.ownBlock = v.ownBlock ∨ ∃ b, v1.ownBlock = some b ∧ W.heap.size ≤ b) → wpList P ops Q rest (a.put o.dst v1) w1) :
    wpList P ops Q (o :: rest) a W := by
  refine print_append_row base hgd s x t e .u8 1 ho ht hinfo (by decide) v (xs.map fun b : Nat => (b : Int)) (ys.map fun b : Nat => (b : Int)) A ys.length c hs hx (by rw [List.length_map]; exact HO.2) HR.2 HB hbase (by simp; omega) ?_
  intro v1 w1 hown hB hg hat
  refine h v1 w1 ⟨fun b hb => ?_, ?_⟩ hB hg hat
  · rcases List.mem_append.1 hb with hb | hb
    · exact HO.1 b hb
    · exact HR.1 b hb
  · rw [← List.map_append, List.length_map] at hown
    exact hown
end
theorem OB.run_append {P : Program} (W : World) (base : Nat) (t ty e : TypeId) (ht : P.underlying t = some (.slice e)) (hinfo : (P.info? e).map (fun i => (i.zero, i.size, i.bytes)) = some (some (.int .u8 0), 1, 1))
    (v : Value) (xs ys : List Nat) (A : Option Addr) (c : Nat) (HO : OB W base e v xs) (HR : RB W A ys) (hbase : base ≤ W.heap.size) (hl : xs.length + ys.length ≤ 140737488355328) :
    ∃ v1 w1, (Builtin.append_ #[t, t] ty #[v, .slice A ys.length c]).run P W = .ok v1 w1 ∧ OB w1 base e v1 (xs ++ ys) ∧ W.grownBy w1 v.ownBlock ∧ (v1.ownBlock = v.ownBlock ∨ v1.ownBlock = some W.heap.size) := by
  obtain ⟨i0, hi, hzz⟩ := Option.map_eq_some_iff.1 hinfo
  simp only [Prod.mk.injEq] at hzz
  obtain ⟨hz0, hz1, hz2⟩ := hzz
  rcases A with _ | ad
  · have h0 : ys.length = 0 := by
      rcases Nat.eq_zero_or_pos ys.length with h0 | h0
      · exact h0
      · obtain ⟨ad, h, _⟩ := HR.at_ 0 h0
        cases h
    obtain rfl : ys = [] := List.eq_nil_of_length_eq_zero h0
    refine ⟨v, W, ?_, by rw [List.append_nil]; exact HO, World.grownBy.refl W _, .inl rfl⟩
    rcases HO.2.2 with ⟨rfl, hn⟩ | ⟨g, cap, cur, rfl, _, _, hnc, _⟩
    · simp [Builtin.append_, run_underlying ht, sizeOf, typeInfo, hi, Builtin.lenOf, Builtin.firstCells]
    · simp [Builtin.append_, run_underlying ht, sizeOf, typeInfo, hi, Builtin.lenOf, Builtin.firstCells, hnc, storeCells]
  · have hcells : ∀ j u, (nb ys)[j]? = some u → W.cell? (ad.add j) = some u := by
      intro j u hu
      have hj : j < ys.length := by
        rcases Nat.lt_or_ge j ys.length with h | h
        · exact h
        · simp [nb, nums, List.getElem?_eq_none h] at hu
      obtain ⟨ad', h', hc⟩ := HR.at_ j hj
      injection h' with h'
      subst h'
      simp [nb, nums, List.getElem?_eq_getElem hj] at hu
      subst hu
      rw [hc]
      simp [List.getD_eq_getElem?_getD, List.getElem?_eq_getElem hj]
    obtain ⟨v1, w1, hr, h2, h3, _, h5⟩ := run_append_own_at (P := P) W base t ty e i0 (.int .u8 0) 1 1 ht hi hz0 hz1 hz2 rfl (by omega) v xs.length (nb xs) HO.2 ad ys.length c (nb ys) (by simp [nb, nums]) hcells
      (by intro u hu; simp only [nb, nums, List.mem_map] at hu; obtain ⟨q, _, rfl⟩ := hu; rfl) (by simp only [maxLen]; omega) (by omega) hbase
    refine ⟨v1, w1, hr, ⟨fun b hb => ?_, ?_⟩, h3, h5⟩
    · rcases List.mem_append.1 hb with hb | hb
      · exact HO.1 b hb
      · exact HR.1 b hb
    · rw [List.length_append, nb, List.map_append, nums_append]
      exact h2
/-- append(v, ys...) of bytes under a guard that says yes. -/
theorem OB.append_g {P : Program} {ops : Array Oper} {rest : List Oper} {o : Oper} {a : Act} {Q : Exit → Act → World → Prop} {w0 W : World} (base : Nat) (hw : Region.wanted o (yielded ops a.tmps) = true) (s x : Operand) (t e : TypeId)
    (ho : o.op = .call { callee := .builtin .append, args := #[s, x], argTypes := #[t, t] })
    (ht : P.underlying t = some (.slice e)) (hinfo : (P.info? e).map (fun i => (i.zero, i.size, i.bytes)) = some (some (.int .u8 0), 1, 1))
    (v : Value) (xs ys : List Nat) (A : Option Addr) (c : Nat) (hs : a.eval s = v) (hx : a.eval x = .slice A ys.length c)
    (HO : OB W base e v xs) (HR : RB W A ys) (HB : Below base w0 W) (hbase : base ≤ W.heap.size) (hl : xs.length + ys.length ≤ 140737488355328)
    (h : ∀ v1 w1, OB w1 base e v1 (xs ++ ys) → Below base w0 w1 → W.grownBy w1 v.ownBlock → (v1.ownBlock = v.ownBlock ∨ ∃ b, v1.ownBlock = some b ∧ W.heap.size ≤ b) → wpList P ops Q rest (a.put o.dst v1) w1) :
    wpList P ops Q (o :: rest) a W := by
  obtain ⟨v1, w1, hr, h1, h2, h3⟩ := OB.run_append (P := P) W base t o.type e ht hinfo v xs ys A c HO HR hbase hl
  refine BigFrame.wpList_want hw fun K hK => ?_
  unfold Oper.wp execOp
  simp only [ho, resolve, invoke, builtin, Sem.run_bind, Sem.run_pure, Result.andThen_ok, List.map_toArray, List.map_cons, List.map_nil, hs, hx, hr]
  refine hK _ _ (h v1 w1 h1 (HB.grown h2 hbase (own_base HO.2)) h2 ?_)
  rcases h3 with h3 | h3
  · exact .inl h3
  · exact .inr ⟨_, h3, Nat.le_refl _⟩
/-- v[i] read. -/
theorem OB.at_ {w : World} {base g cap : Nat} {e : TypeId} {bs : List Nat} (h : OB w base e (.slice (some ⟨g, 0, none⟩) bs.length cap) bs) (i : Nat) (hi : i < bs.length) :
    w.cell? ⟨g, i, none⟩ = some (.int .u8 ((bs.getD i 0 : Nat) : Int)) ∧ w.frozen? ⟨g, i, none⟩ = false := by
  have h1 := own_at h.2 (i : Int) (by omega) (by omega)
  rw [Int.toNat_natCast] at h1
  refine ⟨h1.1.trans ?_, h1.2⟩
  simp [rd, List.getD_eq_getElem?_getD, List.getElem?_eq_getElem hi]
/-- v[i] = x. -/
theorem OB.store {w : World} {base g cap : Nat} {e : TypeId} {bs : List Nat} (h : OB w base e (.slice (some ⟨g, 0, none⟩) bs.length cap) bs) (i x : Nat) (hx : x < 256) :
    OB (w.setCell ⟨g, i, none⟩ (.int .u8 (x : Int))) base e (.slice (some ⟨g, 0, none⟩) bs.length cap) (bs.set i x) ∧ w.grownBy (w.setCell ⟨g, i, none⟩ (.int .u8 (x : Int))) (some g) := by
  have h1 := own_store h.2 (i : Int) (x : Int)
  rw [Int.toNat_natCast] at h1
  refine ⟨⟨fun b hb => ?_, ?_⟩, h1.2⟩
  · rcases List.mem_or_eq_of_mem_set hb with hb | rfl
    · exact h.1 b hb
    · exact hx
  · rw [List.length_set]
    have e1 : (bs.map fun b : Nat => (b : Int)).set i (x : Int) = (bs.set i x).map fun b : Nat => (b : Int) := by rw [List.map_set]
    unfold nb
    rw [← e1]
    exact h1.1
theorem OB.at' {w : World} {base g n cap : Nat} {e : TypeId} {bs : List Nat} (h : OB w base e (.slice (some ⟨g, 0, none⟩) n cap) bs) (hn : bs.length = n) (i : Nat) (hi : i < n) :
    w.cell? ⟨g, i, none⟩ = some (.int .u8 ((bs.getD i 0 : Nat) : Int)) ∧ w.frozen? ⟨g, i, none⟩ = false := by
  subst hn; exact h.at_ i hi
theorem OB.store' {w : World} {base g n cap : Nat} {e : TypeId} {bs : List Nat} (h : OB w base e (.slice (some ⟨g, 0, none⟩) n cap) bs) (hn : bs.length = n) (i x : Nat) (hx : x < 256) :
    OB (w.setCell ⟨g, i, none⟩ (.int .u8 (x : Int))) base e (.slice (some ⟨g, 0, none⟩) n cap) (bs.set i x) ∧ w.grownBy (w.setCell ⟨g, i, none⟩ (.int .u8 (x : Int))) (some g) := by
  subst hn; exact h.store i x hx
theorem OB.form' {w : World} {base n : Nat} {e : TypeId} {v : Value} {bs : List Nat} (h : OB w base e v bs) (hn : bs.length = n) (hp : 0 < n) : ∃ g cap, v = .slice (some ⟨g, 0, none⟩) n cap ∧ base ≤ g ∧ g < w.heap.size := by
  subst hn
  obtain ⟨g, cap, h1, h2, h3⟩ := World.ownsRow.form h.2 hp
  exact ⟨g, cap, h1, h2, h3⟩
/-- The row's block. -/
theorem OB.form {w : World} {base : Nat} {e : TypeId} {v : Value} {bs : List Nat} (h : OB w base e v bs) (hp : 0 < bs.length) : ∃ g cap, v = .slice (some ⟨g, 0, none⟩) bs.length cap ∧ base ≤ g ∧ g < w.heap.size := by
  obtain ⟨g, cap, h1, h2, h3⟩ := World.ownsRow.form h.2 hp
  exact ⟨g, cap, h1, h2, h3⟩

/-- append(v, y) of a byte, v of the call's own; behind 'at_builtin'. -/
theorem OB.append1 {P : Program} {ops : Array Oper} {rest : List Oper} {o : Oper} {a : Act} {Q : Exit → Act → World → Prop} {w0 W : World} (base : Nat) (hgd : o.guard = none) (s x : Operand) (t e : TypeId)
    (ho : o.op = .call { callee := .builtin .append, args := #[s, x], argTypes := #[t, t] })
    (ht : P.underlying t = some (.slice e)) (hinfo : (P.info? e).map (fun i => (i.zero, i.size, i.bytes)) = some (some (.int .u8 0), 1, 1))
    (v : Value) (xs : List Nat) (y : Nat) (hy : y < 256) (hs : a.eval s = v) (hx : a.eval x = .slice (some ⟨W.heap.size, 0, none⟩) 1 1)
    (HO : OB W base e v xs) (HB : Below base w0 W) (hbase : base ≤ W.heap.size) (hl : xs.length + 1 ≤ 140737488355328)
    (h : ∀ v1 w1, OB w1 base e v1 (xs ++ [y]) → Below base w0 w1 → W.grownBy w1 v.ownBlock → (v1.ownBlock = v.ownBlock ∨ ∃ b, v1.ownBlock = some b ∧ W.heap.size ≤ b) → wpList P ops Q rest (a.put o.dst v1) w1) :
    wpList P ops Q (o :: rest) a (W.alloc (.cells #[.int .u8 (y : Int)] e)) := by
  refine print_append_num base hgd s x t e .u8 1 ho ht hinfo (by decide) v (xs.map fun b : Nat => (b : Int)) (y : Int) hs hx (by rw [List.length_map]; exact HO.2) HB hbase (by simp; omega) ?_
  intro v1 w1 hown hB hg hat
  refine h v1 w1 ⟨fun b hb => ?_, ?_⟩ hB hg hat
  · rcases List.mem_append.1 hb with hb | hb
    · exact HO.1 b hb
    · simp at hb; omega
  · rw [show (xs.map fun b : Nat => (b : Int)) ++ [(y : Int)] = (xs ++ [y]).map fun b : Nat => (b : Int) by simp, List.length_map] at hown
    exact hown

/-! what is kept: all blocks that were there, but those of S -/
structure Keep (S : Nat → Prop) (w w' : World) : Prop where
  os : w'.os = w.os
  tape : w'.tape = w.tape
  output : w'.output = w.output
  size : w.heap.size ≤ w'.heap.size
  block : ∀ i, i < w.heap.size → ¬ S i → w'.heap[i]? = w.heap[i]?
theorem Keep.refl (S : Nat → Prop) (w : World) : Keep S w w := ⟨rfl, rfl, rfl, Nat.le_refl _, fun _ _ _ => rfl⟩
theorem Keep.trans {S T : Nat → Prop} {a b c : World} (h : Keep S a b) (k : Keep T b c) (hT : ∀ i, i < a.heap.size → T i → S i) : Keep S a c :=
  ⟨k.os.trans h.os, k.tape.trans h.tape, k.output.trans h.output, Nat.le_trans h.size k.size, fun i hi hs => (k.block i (Nat.lt_of_lt_of_le hi h.size) fun ht => hs (hT i hi ht)).trans (h.block i hi hs)⟩
theorem Keep.of_below {S : Nat → Prop} {w w' : World} (h : Below w.heap.size w w') : Keep S w w' := ⟨h.os, h.tape, h.output, h.size, fun i hi _ => h.block i hi⟩
theorem Keep.of_grown {w w' : World} {row : Option Nat} (h : w.grownBy w' row) : Keep (fun i => some i = row) w w' := ⟨h.os, h.tape, h.output, h.size, fun i hi hs => h.block i hi hs⟩
theorem Keep.below {S : Nat → Prop} {w w' : World} {B : Nat} (h : Keep S w w') (hB : B ≤ w.heap.size) (hS : ∀ i, S i → B ≤ i) : Below B w w' :=
  ⟨h.os, h.tape, h.output, h.size, fun i hi => h.block i (by omega) fun hs => by have := hS i hs; omega⟩
theorem Keep.mono {S T : Nat → Prop} {w w' : World} (h : Keep S w w') (hS : ∀ i, i < w.heap.size → S i → T i) : Keep T w w' := ⟨h.os, h.tape, h.output, h.size, fun i hi ht => h.block i hi fun hs => ht (hS i hi hs)⟩
theorem Keep.setCell {S : Nat → Prop} {w w' : World} (h : Keep S w w') (p : Addr) (hp : p.block < w.heap.size → S p.block) (u : Value) : Keep S w (w'.setCell p u) :=
  ⟨h.os, h.tape, h.output, by simpa [World.setCell] using h.size, fun i hi hs => (Below.heap_setCell w' p u i (fun e => hs (by subst e; exact hp hi))).trans (h.block i hi hs)⟩
theorem Keep.drew {S : Nat → Prop} {w w' : World} (h : Keep S w w') : Keep S w w'.drew := ⟨h.os, h.tape, h.output, h.size, h.block⟩
theorem Keep.drewN {S : Nat → Prop} {w w' : World} (h : Keep S w w') (n : Nat) : Keep S w (w'.drewN n) := ⟨h.os, h.tape, h.output, h.size, h.block⟩
theorem Keep.alloc {S : Nat → Prop} {w w' : World} (h : Keep S w w') (o : Obj) : Keep S w (w'.alloc o) :=
  ⟨h.os, h.tape, h.output, Nat.le_trans h.size (by simp), fun i hi hs => (Below.heap_alloc w' o i (Nat.lt_of_lt_of_le hi h.size)).trans (h.block i hi hs)⟩
/-- A row that the call owns lives on. -/
theorem OB.keep {w w1 : World} {base : Nat} {e : TypeId} {v : Value} {bs : List Nat} {S : Nat → Prop} (h : OB w base e v bs) (hk : Keep S w w1) (hne : ∀ k, v.ownBlock = some k → ¬ S k) : OB w1 base e v bs := by
  refine ⟨h.1, h.2.1, ?_⟩
  rcases h.2.2 with hn | ⟨g, cap, cur, rfl, hb, hgg, rest⟩
  · exact .inl hn
  · refine .inr ⟨g, cap, cur, rfl, hb, ?_, rest⟩
    rw [hk.block g (Array.getElem?_eq_some_iff.1 hgg).1 (hne g rfl)]
    exact hgg
theorem OB.lt {w : World} {base : Nat} {e : TypeId} {v : Value} {bs : List Nat} (h : OB w base e v bs) : ∀ k, v.ownBlock = some k → k < w.heap.size := own_lt h.2
theorem OB.base {w : World} {base : Nat} {e : TypeId} {v : Value} {bs : List Nat} (h : OB w base e v bs) : ∀ k, v.ownBlock = some k → base ≤ k := own_base h.2
theorem OB.lower {w : World} {base B : Nat} {e : TypeId} {v : Value} {bs : List Nat} (h : OB w base e v bs) (hB : B ≤ base) : OB w B e v bs := by
  refine ⟨h.1, h.2.1, ?_⟩
  rcases h.2.2 with hn | ⟨g, cap, cur, rfl, hb, rest⟩
  · exact .inl hn
  · exact .inr ⟨g, cap, cur, rfl, by omega, rest⟩
/-- A row of another element type lies elsewhere. -/
theorem OB.ne_blk {w : World} {base g : Nat} {e t : TypeId} {v : Value} {bs : List Nat} {cs : Array Value} (h : OB w base e v bs) (hg : w.heap[g]? = some (.cells cs t (0, 0))) (hne : e ≠ t) : some g ≠ v.ownBlock := own_ne h.2 hg hne

/-! a slice of whole numbers as a row's argument is opened -/
def IsRow (k : IntKind) (w : World) (a : Option Addr) (len cap : Nat) (zs : List Int) : Prop :=
  (a = none ∧ len = 0 ∧ cap = 0 ∧ zs = []) ∨
  ∃ x, a = some x ∧ len ≤ cap ∧ cap ≤ maxLen ∧ zs.length = cap ∧ (∀ i, i < zs.length → w.cell? (x.add i) = some (.int k (zs.getD i 0))) ∧ ∀ n ∈ zs, (Lit.int k n).wf = true
theorem u8_range {n : Int} (h : (Lit.int .u8 n).wf = true) : 0 ≤ n ∧ n < 256 := by
  simp [Lit.wf, IntKind.min, IntKind.max, IntKind.signed, IntKind.bits] at h; omega
theorem u16_range {n : Int} (h : (Lit.int .u16 n).wf = true) : 0 ≤ n ∧ n < 65536 := by
  simp [Lit.wf, IntKind.min, IntKind.max, IntKind.signed, IntKind.bits] at h; omega
theorem u32_range {n : Int} (h : (Lit.int .u32 n).wf = true) : 0 ≤ n ∧ n < 4294967296 := by
  simp [Lit.wf, IntKind.min, IntKind.max, IntKind.signed, IntKind.bits] at h; omega
theorem i64_range {n : Int} (h : (Lit.int .i64 n).wf = true) : -9223372036854775808 ≤ n ∧ n ≤ 9223372036854775807 := by
  simp [Lit.wf, IntKind.min, IntKind.max, IntKind.signed, IntKind.bits] at h; omega
theorem RB.of_row {w : World} {a : Option Addr} {len cap : Nat} {zs : List Int} (h : IsRow .u8 w a len cap zs) : ∃ bs : List Nat, len = bs.length ∧ RB w a bs ∧ bs.length ≤ cap := by
  obtain ⟨l, e, hr, _, hw, hc⟩ := ReadsInt.ofRowC h
  have hl : (l.map Int.toNat).map (fun b : Nat => (b : Int)) = l := by
    rw [List.map_map]
    have : ∀ x ∈ l, ((fun b : Nat => (b : Int)) ∘ Int.toNat) x = x := fun x hx => by
      have := u8_range (hw x hx)
      simp only [Function.comp]
      omega
    rw [List.map_congr_left this, List.map_id']
  refine ⟨l.map Int.toNat, by simpa using e, ⟨?_, ?_⟩, by simpa using hc⟩
  · intro b hb
    obtain ⟨x, hx, rfl⟩ := List.mem_map.1 hb
    have := u8_range (hw x hx)
    omega
  · rw [hl, List.length_map]; exact hr
end Go.Proofs.Ytdgomddbppgkmaa.Base
