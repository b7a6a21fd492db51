/- Proved here: what the helpers of the laws of layer 1 do: parts that are put into a writer; the example; the reference's comparison. Conditions: each theorem's own. -/
import Derived.Test.YtohgkdiagekmbaaBitwWalks
import Derived.Deep.SlicePairs
import Derived.Laws.BytesArg
import Derived.Lib.Bytes
namespace Go.Proofs.Ytohgkdiagekmbaa.Bitw
open Go.RowKit Go.Proofs.YtohgkdiagekmbaaW.PrintWords Go.Proofs.Ytohgkdiagekmbaa.CrcM Go.Proofs.Ytohgkdiagekmbaa.BitsM Go.Proofs.Ytohgkdiagekmbaa.Base

/-! parts that are read -/
def RP (w : World) (A : Option Addr) (ps : List (Nat × Int)) : Prop :=
  (∀ p ∈ ps, p.1 < 4294967296 ∧ (Lit.int .i64 p.2).wf = true) ∧
  (0 < ps.length → ∃ ad, A = some ad ∧ ∀ i, i < ps.length → w.cell? (ad.add (i * 2)) = some (.int .u32 ((ps.getD i (0, 0)).1 : Int)) ∧ w.cell? (ad.add (i * 2 + 1)) = some (.int .i64 (ps.getD i (0, 0)).2))
theorem open_parts {H : Type} {enc : TypeId × Value → H} {w : World} {base : Nat} {spare : Nat → Bool} {held : Bool} {t e : TypeId} {f0 f1 : Field} {a : Option Addr} {len cap : Nat} {d : DataW H} {pl : List MemPlace} {P : Program}
    (ht : P.underlying t = some (.slice e)) (he : P.underlying e = some (.struct #[f0, f1])) (ce : P.cellsOf e = 2) (o0 : f0.offset = 0) (o1 : f1.offset = 1) (c0 : P.cellsOf f0.type = 1) (c1 : P.cellsOf f1.type = 1)
    (u0 : P.underlying f0.type = some (.int .u32)) (u1 : P.underlying f1.type = some (.int .i64)) (h : DataW.Trod enc P w base spare held t (.slice a len cap) d pl) :
    ∃ ps : List (Nat × Int), len = ps.length ∧ RP w a ps := by
  obtain ⟨fuel, hf⟩ := h
  rcases Go.Deep.open_slice_pairs ht he ce o0 o1 c0 c1 hf with ⟨hcs, _⟩ | ⟨ad, len', cap', m, n, V0, V1, D0, D1, P0, P1, hcs, _, hl, hm, hmm, _, hx⟩
  · simp [Value.cells] at hcs
    obtain ⟨rfl, rfl, rfl⟩ := hcs
    exact ⟨[], rfl, by simp, fun h => by simp at h⟩
  · simp [Value.cells] at hcs
    obtain ⟨rfl, rfl, rfl⟩ := hcs
    have hlm : len ≤ m := by rw [hmm]; split <;> omega
    have each : ∀ i, i < len → V0 i = .int .u32 ((intOf (V0 i)).toNat : Int) ∧ (intOf (V0 i)).toNat < 4294967296 ∧ V1 i = .int .i64 (intOf (V1 i)) ∧ (Lit.int .i64 (intOf (V1 i))).wf = true := by
      intro i hi
      obtain ⟨_, _, h0, h1⟩ := hx i (by omega)
      obtain ⟨x, e0, _, w0⟩ := DataW.trod_int u0 h0
      obtain ⟨y, e1, _, w1⟩ := DataW.trod_int u1 h1
      simp only [List.cons.injEq, and_true] at e0 e1
      have hr := u32_range w0
      rw [e0, e1]
      refine ⟨?_, ?_, rfl, w1⟩
      · simp only [intOf]; rw [Int.toNat_of_nonneg hr.1]
      · simp only [intOf]; omega
    refine ⟨(List.range len).map fun i => ((intOf (V0 i)).toNat, intOf (V1 i)), by simp, ?_, ?_⟩
    · intro p hp
      simp only [List.mem_map, List.mem_range] at hp
      obtain ⟨i, hi, rfl⟩ := hp
      exact ⟨(each i hi).2.1, (each i hi).2.2.2⟩
    · intro _
      refine ⟨ad, rfl, fun i hi => ?_⟩
      have hi' : i < len := by simpa using hi
      obtain ⟨h0, h1, _, _⟩ := hx i (by omega)
      obtain ⟨e0, _, e1, _⟩ := each i hi'
      have eg : ((List.range len).map fun i => ((intOf (V0 i)).toNat, intOf (V1 i))).getD i (0, 0) = ((intOf (V0 i)).toNat, intOf (V1 i)) := by simp [List.getD_eq_getElem?_getD, hi']
      rw [eg, h0, h1]
      exact ⟨congrArg some e0, congrArg some e1⟩
theorem parts_of {H : Type} {enc : TypeId × Value → H} {w : World} {base : Nat} {spare : Nat → Bool} {held : Bool} {a : Option Addr} {len cap : Nat} {d : DataW H} {pl : List MemPlace}
    (h : DataW.Trod enc Try.prog w base spare held 40 (.slice a len cap) d pl) : ∃ ps : List (Nat × Int), len = ps.length ∧ RP w a ps :=
  open_parts Try.underlying40 Try.underlying44 (by kernel_rfl) rfl rfl (by kernel_rfl) (by kernel_rfl) Try.underlying32 Try.underlying3 h
theorem RP.below {w w1 : World} {A : Option Addr} {ps : List (Nat × Int)} (h : RP w A ps) (hb : Below w.heap.size w w1) : RP w1 A ps :=
  ⟨h.1, fun hp => by
    obtain ⟨ad, e, hc⟩ := h.2 hp
    exact ⟨ad, e, fun i hi => ⟨pw_cell_below hb (hc i hi).1, pw_cell_below hb (hc i hi).2⟩⟩⟩
theorem RP.at_ {w : World} {A : Option Addr} {ps : List (Nat × Int)} (h : RP w A ps) (i : Nat) (hi : i < ps.length) :
    ∃ ad, A = some ad ∧ w.cell? (ad.add (i * 2)) = some (.int .u32 ((ps.getD i (0, 0)).1 : Int)) ∧ w.cell? ⟨(ad.add (i * 2)).block, (ad.add (i * 2)).off + 1, none⟩ = some (.int .i64 (ps.getD i (0, 0)).2) := by
  obtain ⟨ad, e, hc⟩ := h.2 (by omega)
  exact ⟨ad, e, (hc i hi).1, by rw [← add_field ad (i * 2) 1 (by omega)]; exact (hc i hi).2⟩
theorem RP.get {w : World} {A : Option Addr} {ps : List (Nat × Int)} (h : RP w A ps) (i : Nat) (hi : i < ps.length) : (ps.getD i (0, 0)).1 < 4294967296 ∧ (Lit.int .i64 (ps.getD i (0, 0)).2).wf = true := by
  rw [List.getD_eq_getElem?_getD, List.getElem?_eq_getElem hi]
  exact h.1 _ (List.getElem_mem hi)

/-! a writer beside other memory -/
theorem Wr.foot_lt {w : World} {B g : Nat} {v : Value} {bs : List Nat} {m : Nat} (h : Wr w B g v bs m) : ∀ i, foot g v i → i < w.heap.size := by
  rintro i (e | e)
  · rw [e]; exact blk_lt h.blk
  · exact h.row.lt i e.symm
theorem Wr.foot_base {w : World} {B g : Nat} {v : Value} {bs : List Nat} {m : Nat} (h : Wr w B g v bs m) : ∀ i, foot g v i → B ≤ i := by
  rintro i (e | e)
  · rw [e]; exact h.base
  · exact h.row.base i e.symm
theorem Wr.keep {w w1 : World} {B g : Nat} {v : Value} {bs : List Nat} {m : Nat} {S : Nat → Prop} (h : Wr w B g v bs m) (hk : Keep S w w1) (hS : ∀ i, foot g v i → ¬ S i) : Wr w1 B g v bs m :=
  ⟨h.base, by rw [hk.block g (blk_lt h.blk) (hS g (.inl rfl))]; exact h.blk, h.row.keep hk (fun k e => hS k (.inr e.symm)), h.len, h.vlt⟩
theorem Wr.below {w w1 : World} {B g : Nat} {v : Value} {bs : List Nat} {m : Nat} (h : Wr w B g v bs m) (hb : Below w.heap.size w w1) : Wr w1 B g v bs m :=
  h.keep (Keep.of_below (S := fun _ => False) hb) (fun _ _ => id)
theorem Wr.drew {w : World} {B g : Nat} {v : Value} {bs : List Nat} {m : Nat} (h : Wr w B g v bs m) : Wr w.drew B g v bs m := ⟨h.base, h.blk, h.row.drew, h.len, h.vlt⟩
theorem Wr.drewN {w : World} {B g : Nat} {v : Value} {bs : List Nat} {m : Nat} (h : Wr w B g v bs m) (n : Nat) : Wr (w.drewN n) B g v bs m := ⟨h.base, h.blk, h.row.drewN n, h.len, h.vlt⟩
theorem Wr.lower {w : World} {B B' g : Nat} {v : Value} {bs : List Nat} {m : Nat} (h : Wr w B g v bs m) (hB : B' ≤ B) : Wr w B' g v bs m :=
  ⟨Nat.le_trans hB h.base, h.blk, h.row.lower hB, h.len, h.vlt⟩

theorem below_cell_drew {B : Nat} {wr w2 : World} {p : Addr} {u : Value} (h : Below B wr.drew w2) (hp : p.block < B) (hc : wr.cell? p = some u) : w2.cell? p = some u := (h.cell hp).trans hc
/-! what has been put, as a number and how many bits -/
def fits (n : Int) : Bool := decide (0 ≤ n) && decide (n ≤ 24)
def put1 (s : Nat × Nat) (p : Nat × Int) : Nat × Nat := if fits p.2 then (s.1 + 2 ^ s.2 * (p.1 % 2 ^ p.2.toNat), s.2 + p.2.toNat) else s
def puts (s : Nat × Nat) (ps : List (Nat × Int)) : Nat × Nat := ps.foldl put1 s
theorem puts_snoc (s : Nat × Nat) (ps : List (Nat × Int)) (k : Nat) (hk : k < ps.length) : puts s (ps.take (k + 1)) = put1 (puts s (ps.take k)) (ps.getD k (0, 0)) := by
  unfold puts
  rw [List.take_succ_eq_append_getElem hk, List.foldl_append, List.getD_eq_getElem?_getD, List.getElem?_eq_getElem hk]
  rfl
theorem put1_len (s : Nat × Nat) (p : Nat × Int) : (put1 s p).2 ≤ s.2 + 24 := by
  unfold put1 fits
  split
  · rename_i h
    simp only [Bool.and_eq_true, decide_eq_true_eq] at h
    show s.2 + p.2.toNat ≤ s.2 + 24
    omega
  · omega
theorem puts_len (ps : List (Nat × Int)) : ∀ s : Nat × Nat, (puts s ps).2 ≤ s.2 + 24 * ps.length := by
  induction ps with
  | nil => intro s; simp [puts]
  | cons p ps ih =>
    intro s
    have h1 := ih (put1 s p)
    have h2 := put1_len s p
    have e : puts s (p :: ps) = puts (put1 s p) ps := rfl
    rw [e, List.length_cons]
    omega

theorem put_all (w : World) (B g m x : Nat) (n : Int) (v : Value) (bs : List Nat) (h : Wr w B g v bs m) (hm : m ≤ 50000) (hx : x < 4294967296) :
    Calls Try.prog 21 #[.pointer (some ⟨g, 0, none⟩), .int .u32 (x : Int), .int .i64 n] w fun e w' => e = .returned (.bool (fits n)) ∧
      ∃ v' bs', Wr w' B g v' bs' (put1 (val bs, m) (x, n)).2 ∧ val bs' = (put1 (val bs, m) (x, n)).1 ∧ Keep (foot g v) w w' ∧ Next w v v' := by
  by_cases hf : 0 ≤ n ∧ n ≤ 24
  · have e1 : fits n = true := by simp [fits, hf]
    obtain ⟨k, rfl⟩ := Int.eq_ofNat_of_zero_le hf.1
    unfold put1
    rw [if_pos e1, e1, Int.toNat_natCast]
    exact put_any w B g m x k v bs h (by omega) hx (by omega)
  · have e1 : fits n = false := by
      unfold fits
      rcases (show n < 0 ∨ 24 < n by omega) with h | h
      · simp [Int.not_le.2 h]
      · simp [Int.not_le.2 h]
    unfold put1
    rw [e1, if_neg (by simp)]
    refine (put_no w g x n (by omega)).mono ?_
    rintro e w' ⟨rfl, rfl⟩
    exact ⟨rfl, v, bs, h, rfl, Keep.refl _ _, .inl rfl⟩

set_option maxRecDepth 100000 in
set_option maxHeartbeats 400000 in
theorem puts_any (w : World) (A : Option Addr) (c : Nat) (ps : List (Nat × Int)) (h : RP w A ps) (hn : ps.length ≤ 60) :
    Calls Try.prog 29 #[.slice A ps.length c] w fun e w' => ∃ g v bs, e = .returned (.pointer (some ⟨g, 0, none⟩)) ∧ Wr w' w.heap.size g v bs (puts (0, 0) ps).2 ∧ val bs = (puts (0, 0) ps).1 ∧ Below w.heap.size w w' := by
  have HR := Aside0.mk h
  clear h
  go_enter Try.func29, Try.ntmps29
  go_wp2_with fail
  refine (new_any w w.heap.size (Nat.le_refl _)).mono ?_
  rintro e w1 ⟨rfl, hw1, hb1⟩
  have H1 := Aside0.mk hw1
  clear hw1
  go_wp2_with fail
  go_loopw [4] (fun i wr => ∃ k : Nat, k ≤ ps.length ∧ i = .int .i64 k ∧ ∃ v bs, Aside0 (Wr wr w.heap.size w.heap.size v bs (puts (0, 0) (ps.take k)).2) ∧ Aside0 (val bs = (puts (0, 0) (ps.take k)).1) ∧ Below w.heap.size w wr) (fun i _ => ps.length - (intOf i).toNat)
  case atStart => exact ⟨0, by omega, rfl, _, _, H1, ⟨rfl⟩, hb1⟩
  case round =>
    obtain ⟨k, hk, rfl, v, bs, HW, HV, hbr⟩ := hrel
    by_cases hlt : k < ps.length
    · obtain ⟨ad, rfl, hw0, hw1⟩ := HR.out.at_ k hlt
      have hq0 := World.block_lt_of_cell? w _ hw0
      have hc0 := pw_cell_below hbr hw0
      have hc1 := pw_cell_below hbr hw1
      clear hw0 hw1
      obtain ⟨hx, hwf⟩ := HR.out.get k hlt
      have hlen := puts_len (ps.take k) (0, 0)
      have HS := Aside0.mk (puts_snoc (0, 0) ps k hlt)
      have htl : (ps.take k).length ≤ 60 := by rw [List.length_take]; omega
      generalize ps.getD k (0, 0) = p at *
      obtain ⟨x, n⟩ := p
      dsimp only at hc0 hc1 hx hwf
      have hi := i64_range hwf
      have hm0 : (puts (0, 0) (ps.take k)).2 ≤ 50000 := by omega
      generalize hs : puts (0, 0) (ps.take k) = s at *
      clear hs
      go_wp2_with fail
      go_region_held3 (fun w' => w'.cell? (ad.add (k * 2)) = some (.int .u32 (x : Int)) ∧ w'.cell? ⟨(ad.add (k * 2)).block, (ad.add (k * 2)).off + 1, none⟩ = some (.int .i64 n)) (go_keep)
        (first | (go_at_call 21; refine (put_all _ w.heap.size w.heap.size s.2 x n v bs ?_ hm0 hx).mono ?_; (exact HW.out.drew); rintro e w2 ⟨rfl, v2, bs2, hw2, hv2, hk2, hn2⟩; have hd := hk2.below (B := w.heap.size) (by exact hbr.size) (by exact HW.out.foot_base); have hd0 := below_cell_drew hd hq0 hc0; have hd1 := below_cell_drew (p := ⟨(ad.add (k * 2)).block, (ad.add (k * 2)).off + 1, none⟩) hd hq0 hc1))
      have e1 : (val bs, s.2) = s := by rw [HV.out]
      rw [e1] at hw2 hv2
      have R1 := Aside0.mk (show Wr w2 w.heap.size w.heap.size v2 bs2 (puts (0, 0) (ps.take (k + 1))).2 by rw [HS.out]; exact hw2)
      have R2 := Aside0.mk (show val bs2 = (puts (0, 0) (ps.take (k + 1))).1 by rw [HS.out]; exact hv2)
      have hbr2 := hbr.drew.trans hd
      clear hw2 hv2 hk2 hn2 hd hd0 hd1 hc0 hc1 e1
      go_wp2_with fail
      go_roundw
      case rel => exact ⟨k + 1, by omega, by go_num, v2, bs2, R1, R2, hbr2⟩
      case measure => simp [intOf]; omega
    · obtain rfl : k = ps.length := by omega
      rw [List.take_length] at HW HV
      go_wp2_with fail
      go_ret
      exact ⟨_, v, bs, rfl, HW.out, HV.out, hbr⟩

set_option maxRecDepth 100000 in
set_option maxHeartbeats 400000 in
theorem same_any (w : World) (A B : Option Addr) (c d : Nat) (xs ys : List Nat) (hx : RB w A xs) (hy : RB w B ys) :
    Calls Try.prog 24 #[.slice A xs.length c, .slice B ys.length d] w fun e w' => e = .returned (.bool (xs == ys)) ∧ w = w' := by
  have hcx := RB.str (c := c) Try.underlying22 Try.underlying5 Try.underlying9 hx
  have hcy := RB.str (c := d) Try.underlying22 Try.underlying5 Try.underlying9 hy
  have HE := Aside0.mk (str_eq xs ys hx.1 hy.1)
  clear hx hy
  go_enter Try.func24, Try.ntmps24
  go_wp2
  go_ret
  exact ⟨ret_bool HE.out, rfl⟩

theorem one_byte (bs : List Nat) (x : Nat) (hb : ∀ b ∈ bs, b < 256) (hl : bs.length = 1) (hv : val bs = x) (hx : x < 256) : bs = [x] :=
  val_inj bs [x] (by simpa using hl) hb (by simpa using hx) (by simpa [CrcM.val] using hv)
set_option maxRecDepth 100000 in
set_option maxHeartbeats 400000 in
theorem awake_any (w : World) : Calls Try.prog 19 #[] w fun e w' => e = .returned (.bool true) ∧ Below w.heap.size w w' := by
  go_enter Try.func19, Try.ntmps19
  go_wp2_with fail
  refine (new_any w w.heap.size (Nat.le_refl _)).mono ?_
  rintro e w1 ⟨rfl, hw1, hb1⟩
  have H1 := Aside0.mk hw1
  clear hw1
  go_wp2_with fail
  refine (put_any w1 _ _ _ 5 3 _ _ H1.out (by omega) (by omega) (by omega)).mono ?_
  rintro e w2 ⟨rfl, v2, bs2, hw2, hv2, hk2, -⟩
  have hb2 := hb1.trans (hk2.below hb1.size H1.out.foot_base)
  have H2 := Aside0.mk hw2
  have V2 := Aside0.mk hv2
  clear hw2 hv2 hk2 H1
  go_wp2_with fail
  refine (put_any w2 _ _ _ 1 2 _ _ H2.out (by omega) (by omega) (by omega)).mono ?_
  rintro e w3 ⟨rfl, v3, bs3, hw3, hv3, hk3, -⟩
  have hb3 := hb2.trans (hk3.below hb2.size H2.out.foot_base)
  have hv3' : val bs3 = 13 := by rw [hv3, V2.out]; rfl
  have hl3 : bs3.length = 1 := hw3.len
  obtain rfl := one_byte bs3 13 hw3.row.1 hl3 hv3' (by omega)
  have H3 := Aside0.mk hw3
  clear hw3 hv3 hk3 hv3' hl3 H2 V2
  go_wp2_with fail
  refine (bytes_any w3 _ _ _ _ _ H3.out (by omega)).mono ?_
  rintro e w4 ⟨r4, rfl, hr4, hb4⟩
  obtain ⟨A4, c4, rfl, hq4⟩ := hr4.reads
  have hcv : (convert 22 9 (.slice A4 1 c4)).run Try.prog w4 = .ok (.string ⟨#[13]⟩) w4 := RB.str (c := c4) Try.underlying22 Try.underlying5 Try.underlying9 hq4
  have H4 := Aside0.mk (H3.out.below hb4)
  have hb4' := below_then hb3 hb3.size hb4
  clear hr4 hq4 H3 hb4
  go_wp2_with fail
  refine (close_any w4 _ _ _ _ _ H4.out (by omega)).mono ?_
  rintro e w5 ⟨r5, rs5, rfl, hr5, hl5, hv5, hb5⟩
  obtain rfl := one_byte rs5 45 hr5.1 hl5 (by rw [hv5]; rfl) (by omega)
  obtain ⟨A5, c5, rfl, hq5⟩ := hr5.reads
  have hcv5 : (convert 22 9 (.slice A5 1 c5)).run Try.prog w5 = .ok (.string ⟨#[45]⟩) w5 := RB.str (c := c5) Try.underlying22 Try.underlying5 Try.underlying9 hq5
  have H5 := Aside0.mk (H4.out.below hb5)
  have hb5' := below_then hb4' hb4'.size hb5
  clear hr5 hq5 H4 hb5 hl5 hv5 hcv
  go_wp2_with fail
  refine (bits_any w5 _ _ _ _ _ H5.out).mono ?_
  rintro e w6 ⟨rfl, rfl⟩
  go_wp2_with fail
  go_ret
  exact ⟨rfl, hb5'⟩
end Go.Proofs.Ytohgkdiagekmbaa.Bitw
