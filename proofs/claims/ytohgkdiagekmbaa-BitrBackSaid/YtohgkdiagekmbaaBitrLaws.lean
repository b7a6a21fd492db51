/- Proved here: what the laws of package bitr have in common: the example of the chapter. Conditions: each theorem's own. -/
import Derived.Test.YtohgkdiagekmbaaBitrWalks
namespace Go.Proofs.Ytohgkdiagekmbaa.Bitr
open Go.RowKit Go.Proofs.YtohgkdiagekmbaaW.PrintWords Go.Proofs.Ytohgkdiagekmbaa.CrcM Go.Proofs.Ytohgkdiagekmbaa.BitsM Go.Proofs.Ytohgkdiagekmbaa.Base Go.Proofs.Ytohgkdiagekmbaa.Bitw

theorem rb_lit (w : World) : RB (w.alloc (.cells #[.int .u8 45] 5)) (some ⟨w.heap.size, 0, none⟩) [45] := RB.of_alloc w 5 (0, 0) [45] (by simp) (by simp)
set_option maxRecDepth 100000 in
set_option maxHeartbeats 1000000 in
theorem awake2_any (w : World) : Calls Try.prog 13 #[] w fun e w' => e = .returned (.bool true) ∧ Below w.heap.size w w' := by
  go_enter Try.func13, Try.ntmps13
  go_wp2_with fail
  refine (Bitr.new_any _ _ 1 [45] (rb_lit w) (by simp) (by simp) (by simp)).mono ?_
  rintro e w1 ⟨g, v, rfl, hr1, hb1⟩
  have hb1' : Below w.heap.size w w1 := below_then ((Below.refl w.heap.size w).alloc (Nat.le_refl _) _) (by simp) hb1
  have R1 := Aside0.mk (show Rd w1 w.heap.size g v [45] 5 from ⟨by have := hr1.base; simp at this; omega, hr1.blk, hr1.row.lower (by simp), by decide⟩)
  clear hr1 hb1
  go_wp2_with fail
  refine (left_any _ _ _ _ _ _ R1.out).mono ?_
  rintro e w2 ⟨rfl, rfl⟩
  go_wp2_with fail
  refine (take_any _ _ _ _ 2 _ _ R1.out (by decide) (by decide) (by decide)).mono ?_
  rintro e w2 ⟨rfl, hr2, hk2⟩
  have hb2 : Below w.heap.size w w2 := hb1'.trans (hk2.below hb1'.size (fun i hi => hi ▸ R1.out.base))
  have R2 := Aside0.mk hr2
  rw [show val [45] / 2 ^ (5 - 2) % 2 ^ 2 = 1 from rfl]
  clear hr2 hk2 hb1' R1
  go_wp2_with fail
  refine (take_any _ _ _ _ 3 _ _ R2.out (by decide) (by decide) (by decide)).mono ?_
  rintro e w3 ⟨rfl, hr3, hk3⟩
  have hb3 : Below w.heap.size w w3 := hb2.trans (hk3.below hb2.size (fun i hi => hi ▸ R2.out.base))
  have R3 := Aside0.mk hr3
  rw [show val [45] / 2 ^ (5 - 2 - 3) % 2 ^ 3 = 5 from rfl]
  clear hr3 hk3 hb2 R2
  go_wp2_with fail
  refine (left_any _ _ _ _ _ _ R3.out).mono ?_
  rintro e w4 ⟨rfl, rfl⟩
  go_wp2_with fail
  go_ret
  exact ⟨rfl, hb3⟩

/-- How many bits lie ahead of the mark. -/
def lft (bs : List Nat) : Nat := 8 * (bs.length - 1) + len8 (bs.getD (bs.length - 1) 0) - 1
def Marked (bs : List Nat) : Prop := 0 < bs.length ∧ bs.getD (bs.length - 1) 0 ≠ 0
instance (bs : List Nat) : Decidable (Marked bs) := inferInstanceAs (Decidable (_ ∧ _))
theorem new_yes (w : World) (A : Option Addr) (c : Nat) (bs : List Nat) (hr : RB w A bs) (hn : bs.length ≤ 1000) (hm : Marked bs) :
    Calls Try.prog 14 #[.slice A bs.length c] w fun e w' => ∃ g v, e = .returned (.tuple #[.pointer (some ⟨g, 0, none⟩), .int .i64 0]) ∧ Rd w' w.heap.size g v bs (lft bs) ∧ Below w.heap.size w w' :=
  Bitr.new_any w A c bs hr hn hm.1 hm.2
theorem new_no (w : World) (A : Option Addr) (c : Nat) (bs : List Nat) (hr : RB w A bs) (hn : bs.length ≤ 1000) (hm : ¬ Marked bs) :
    Calls Try.prog 14 #[.slice A bs.length c] w fun e w' => e = .returned (.tuple #[.pointer none, .int .i64 2]) ∧ w = w' := by
  rcases Nat.eq_zero_or_pos bs.length with h0 | h0
  · rw [h0]; exact new_empty w A c
  · refine new_zero w A c bs hr hn h0 ?_
    rcases Nat.eq_zero_or_pos (bs.getD (bs.length - 1) 0) with h | h
    · exact h
    · exact absurd ⟨h0, by omega⟩ hm
/-- Two readers that share nothing: what the first does leaves the second one. -/
theorem Rd.apart {w W w1 w2 : World} {B B' g g' left left' l2 : Nat} {v v' : Value} {bs bs' : List Nat} (h : Rd w B g v bs left) (h' : Rd W B' g' v' bs' left') (hB : w.heap.size ≤ B') (r : Rd w1 B' g' v' bs' l2) (hk : Keep (fun i => i = g) w1 w2) : Rd w2 B' g' v' bs' l2 := by
  have := h.lt
  have := h'.base
  exact r.keep hk (fun e => by omega) (fun k hk e => by have := h'.base_row k hk; have e' : k = g := e; omega)
theorem Rd.apart' {w W w1 w2 : World} {B B' g g' left left' l2 : Nat} {v v' : Value} {bs bs' : List Nat} (h : Rd w B g v bs left) (h' : Rd W B' g' v' bs' left') (hB : w.heap.size ≤ B') (r : Rd w1 B g v bs l2) (hk : Keep (fun i => i = g') w1 w2) : Rd w2 B g v bs l2 := by
  have := h.lt
  have := h'.base
  exact r.keep hk (fun e => by omega) (fun k hk e => by have := h.row.lt k hk; have e' : k = g' := e; omega)
theorem Rd.lower {w : World} {B B' g left : Nat} {v : Value} {bs : List Nat} (h : Rd w B g v bs left) (hB : B' ≤ B) : Rd w B' g v bs left := ⟨Nat.le_trans hB h.base, h.blk, h.row.lower hB, h.llt⟩
/-! taking, whether it can be or not -/
def can (L : Nat) (n : Int) : Bool := decide (0 ≤ n ∧ n ≤ 24 ∧ n ≤ (L : Int))
def tv (V L : Nat) (n : Int) : Nat := if can L n = true then V / 2 ^ (L - n.toNat) % 2 ^ n.toNat else 0
def tl (L : Nat) (n : Int) : Nat := if can L n = true then L - n.toNat else L
theorem tl_le (L : Nat) (n : Int) : tl L n ≤ L := by unfold tl; split <;> omega
theorem tv_lt (V L : Nat) (n : Int) : tv V L n < 16777216 := by
  unfold tv
  split
  · rename_i h
    have h' := of_decide_eq_true h
    exact Nat.lt_of_lt_of_le (Nat.mod_lt _ (Nat.two_pow_pos _)) (show 2 ^ n.toNat ≤ 2 ^ 24 from Nat.pow_le_pow_right (by omega) (by omega))
  · omega
theorem take_gen (w : World) (B g left : Nat) (n : Int) (v : Value) (bs : List Nat) (h : Rd w B g v bs left) (hb : 8 * bs.length ≤ 100000) :
    Calls Try.prog 16 #[.pointer (some ⟨g, 0, none⟩), .int .i64 n] w fun e w' => e = .returned (.tuple #[.int .u32 ((tv (val bs) left n : Nat) : Int), .bool (can left n)]) ∧ Rd w' B g v bs (tl left n) ∧ Keep (fun i => i = g) w w' := by
  by_cases hc : can left n = true
  · have h' := of_decide_eq_true hc
    obtain ⟨k, rfl⟩ := Int.eq_ofNat_of_zero_le h'.1
    unfold tv tl
    rw [if_pos hc, if_pos hc, hc]
    exact take_any w B g left k v bs h (by omega) (by omega) hb
  · have h' : n < 0 ∨ 24 < n ∨ (left : Int) < n := by
      have : ¬ (0 ≤ n ∧ n ≤ 24 ∧ n ≤ (left : Int)) := fun q => hc (decide_eq_true q)
      omega
    unfold tv tl
    rw [if_neg hc, if_neg hc, Bool.eq_false_iff.2 hc]
    refine (take_no w B g left n v bs h h').mono ?_
    rintro e w1 ⟨rfl, rfl⟩
    exact ⟨rfl, h, Keep.refl _ _⟩
end Go.Proofs.Ytohgkdiagekmbaa.Bitr
