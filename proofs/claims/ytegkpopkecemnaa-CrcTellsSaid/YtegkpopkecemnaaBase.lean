/- Proved here: small facts on memory that all walks of this place use: bytes that are read, said as a list of natural numbers; no program in it. Conditions: each theorem's own. -/
import Derived.Test.YtegkpopkecemnaaWWords
import Derived.Laws.BitsAllLaws
import Derived.Lib.SlBytesConst
namespace Go.Proofs.Ytegkpopkecemnaa.Base
open Go.RowKit Go.Proofs.YtegkpopkecemnaaW.PrintWords

theorem ret_int {k : IntKind} {a b : Int} (h : a = b) : Ending.returned (.int k a) = .returned (.int k b) := by rw [h]
/-! bytes that are read -/
def RB (w : World) (A : Option Addr) (bs : List Nat) : Prop := (∀ b ∈ bs, b < 256) ∧ ReadsInt w .u8 A bs.length (bs.map fun b : Nat => (b : Int))
theorem RB.at_ {w : World} {A : Option Addr} {bs : List Nat} (h : RB w A bs) (k : Nat) (hk : k < bs.length) :
    ∃ ad, A = some ad ∧ w.cell? (ad.add k) = some (.int .u8 ((bs.getD k 0 : Nat) : Int)) := by
  obtain ⟨ad, e, hc⟩ := h.2.2.2 (by omega)
  refine ⟨ad, e, ?_⟩
  rw [hc k hk]
  simp [List.getD_eq_getElem?_getD, List.getElem?_eq_getElem hk]
theorem RB.lt {w : World} {A : Option Addr} {bs : List Nat} (h : RB w A bs) (k : Nat) : bs.getD k 0 < 256 := by
  rcases Nat.lt_or_ge k bs.length with hk | hk
  · rw [List.getD_eq_getElem?_getD, List.getElem?_eq_getElem hk]; exact h.1 _ (List.getElem_mem hk)
  · rw [List.getD_eq_getElem?_getD, List.getElem?_eq_none hk]; simp
theorem RB.below {w w1 : World} {A : Option Addr} {bs : List Nat} (h : RB w A bs) (hb : Below w.heap.size w w1) : RB w1 A bs := ⟨h.1, h.2.below hb⟩
theorem RB.nil (w : World) : RB w none [] := ⟨by simp, by simp, by simp, fun h => by simp at h⟩
theorem RB.of_alloc (w : World) (e : TypeId) (fr : Nat × Nat) (bs : List Nat) (hb : ∀ b ∈ bs, b < 256) (hm : bs.length ≤ 1000000) :
    RB (w.alloc (.cells (bs.map fun b : Nat => Value.int .u8 (b : Int)).toArray e fr)) (some ⟨w.heap.size, 0, none⟩) bs := by
  refine ⟨hb, by simp, by omega, fun _ => ⟨_, rfl, fun j hj => ?_⟩⟩
  rw [add_plain, cell_of_row _ _ _ _ e fr (heap_alloc_new w _)]
  simp [List.getD_eq_getElem?_getD, hj]

/-! a slice of whole numbers as a row's argument is opened -/
def IsRow (k : IntKind) (w : World) (a : Option Addr) (len cap : Nat) (zs : List Int) : Prop :=
  (a = none ∧ len = 0 ∧ cap = 0 ∧ zs = []) ∨
  ∃ x, a = some x ∧ len ≤ cap ∧ cap ≤ maxLen ∧ zs.length = cap ∧ (∀ i, i < zs.length → w.cell? (x.add i) = some (.int k (zs.getD i 0))) ∧ ∀ n ∈ zs, (Lit.int k n).wf = true
theorem u8_range {n : Int} (h : (Lit.int .u8 n).wf = true) : 0 ≤ n ∧ n < 256 := by
  simp [Lit.wf, IntKind.min, IntKind.max, IntKind.signed, IntKind.bits] at h; omega
theorem u16_range {n : Int} (h : (Lit.int .u16 n).wf = true) : 0 ≤ n ∧ n < 65536 := by
  simp [Lit.wf, IntKind.min, IntKind.max, IntKind.signed, IntKind.bits] at h; omega
theorem u32_range {n : Int} (h : (Lit.int .u32 n).wf = true) : 0 ≤ n ∧ n < 4294967296 := by
  simp [Lit.wf, IntKind.min, IntKind.max, IntKind.signed, IntKind.bits] at h; omega
theorem i64_range {n : Int} (h : (Lit.int .i64 n).wf = true) : -9223372036854775808 ≤ n ∧ n ≤ 9223372036854775807 := by
  simp [Lit.wf, IntKind.min, IntKind.max, IntKind.signed, IntKind.bits] at h; omega
theorem RB.of_row {w : World} {a : Option Addr} {len cap : Nat} {zs : List Int} (h : IsRow .u8 w a len cap zs) : ∃ bs : List Nat, len = bs.length ∧ RB w a bs ∧ bs.length ≤ cap := by
  obtain ⟨l, e, hr, _, hw, hc⟩ := ReadsInt.ofRowC h
  have hl : (l.map Int.toNat).map (fun b : Nat => (b : Int)) = l := by
    rw [List.map_map]
    have : ∀ x ∈ l, ((fun b : Nat => (b : Int)) ∘ Int.toNat) x = x := fun x hx => by
      have := u8_range (hw x hx)
      simp only [Function.comp]
      omega
    rw [List.map_congr_left this, List.map_id']
  refine ⟨l.map Int.toNat, by simpa using e, ⟨?_, ?_⟩, by simpa using hc⟩
  · intro b hb
    obtain ⟨x, hx, rfl⟩ := List.mem_map.1 hb
    have := u8_range (hw x hx)
    omega
  · rw [hl, List.length_map]; exact hr
end Go.Proofs.Ytegkpopkecemnaa.Base
