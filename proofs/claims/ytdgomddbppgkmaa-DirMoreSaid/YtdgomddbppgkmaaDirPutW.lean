/- Proved here: what dir.Put computes: for numbers that may be put, the 32 bytes whose bits 1 are at these places. Conditions: each theorem's own. -/
import Derived.Test.YtdgomddbppgkmaaWZeros
import Derived.Test.YtdgomddbppgkmaaBitwPart
import Derived.Test.YtdgomddbppgkmaaDirMath
namespace Go.Proofs.Ytdgomddbppgkmaa.Dir
open Go.RowKit Go.Proofs.YtdgomddbppgkmaaW.PrintWords Go.Proofs.Ytdgomddbppgkmaa.CrcM Go.Proofs.Ytdgomddbppgkmaa.BitsM Go.Proofs.Ytdgomddbppgkmaa.Base Go.Proofs.Ytdgomddbppgkmaa.Bitw Go.Proofs.Ytdgomddbppgkmaa.DirM

/-- A slice of ints that is read. -/
def RI (w : World) (A : Option Addr) (zs : List Int) : Prop := ReadsInt w .i64 A zs.length zs
theorem RI.at_ {w : World} {A : Option Addr} {zs : List Int} (h : RI w A zs) (k : Nat) (hk : k < zs.length) :
    ∃ ad, A = some ad ∧ w.cell? (ad.add k) = some (.int .i64 (zs.getD k 0)) := by
  obtain ⟨ad, e, hc⟩ := h.2.2 (by omega)
  exact ⟨ad, e, hc k hk⟩
theorem RI.below {w w1 : World} {A : Option Addr} {zs : List Int} (h : RI w A zs) (hb : Below w.heap.size w w1) : RI w1 A zs := ReadsInt.below h hb

theorem wr_below {w0 w w' : World} {B g m : Nat} {v : Value} {bs : List Nat} (h : Wr w B g v bs m) (hk : Keep (foot g v) w w') (h0 : Below B w0 w) (hB : B ≤ w.heap.size) : Below B w0 w' :=
  h0.trans (hk.below hB (fun i hi => by
    rcases hi with hi | hi
    · have := h.base; omega
    · exact h.row.base i hi.symm))

theorem OB.append_zeros {P : Program} {ops : Array Oper} {rest : List Oper} {o : Oper} {a : Act} {Q : Exit → Act → World → Prop} {w0 W : World} (base : Nat) (hgd : o.guard = none) (s x : Operand) (t ti e : TypeId)
    (ho : o.op = .call { callee := .builtin .append, args := #[s, x], argTypes := #[t, ti] })
    (ht : P.underlying t = some (.slice e)) (hti : P.underlying ti = some (.int .i64)) (hinfo : (P.info? e).map (fun i => (i.zero, i.size, i.bytes)) = some (some (.int .u8 0), 1, 1))
    (v : Value) (xs : List Nat) (m : Nat) {q : Int} (hs : a.eval s = v) (hx : a.eval x = .int .i64 q) (hq : q = (m : Int))
    (HO : OB W base e v xs) (HB : Below base w0 W) (hbase : base ≤ W.heap.size) (hl : xs.length + m ≤ 140737488355328)
    (h : ∀ v1 w1, OB w1 base e v1 (xs ++ List.replicate m 0) → Below base w0 w1 → wpList P ops Q rest (a.put o.dst v1) w1) :
    wpList P ops Q (o :: rest) a W := by
  subst hq
  obtain ⟨i0, hi, hzz⟩ := Option.map_eq_some_iff.1 hinfo
  simp only [Prod.mk.injEq] at hzz
  obtain ⟨hz0, hz1, hz2⟩ := hzz
  have hz : (Builtin.zeroCells (Value.int .u8 0).cells m).toList = nb (List.replicate m 0) := by
    apply List.ext_getElem
    · simp [nb, nums, Builtin.zeroCells, Value.cells]
    · intro i h1 h2
      simp [nb, nums, Builtin.zeroCells, Value.cells, Nat.mod_one]
  obtain ⟨v1, w1, hr, h2, hg, hat⟩ := run_append_zeros (P := P) W base t ti o.type e i0 (.int .u8 0) 1 1 ht hti hi hz0 hz1 hz2 rfl (by omega) (by omega) v xs.length (nb xs) HO.2 .i64 m
    (by rw [hz]; intro u hu; simp only [nb, nums, List.mem_map] at hu; obtain ⟨q, _, rfl⟩ := hu; rfl) (by omega) hbase
  rw [hz] at h2
  refine wpList_plain hgd fun K hK => ?_
  unfold Oper.wp execOp
  simp only [ho, resolve, invoke, builtin, Sem.run_bind, Sem.run_pure, Result.andThen_ok, List.map_toArray, List.map_cons, List.map_nil, hs, hx, hr]
  refine hK _ _ (h v1 w1 ⟨fun b hb => ?_, ?_⟩ (HB.grown hg hbase (own_base HO.2)))
  · rcases List.mem_append.1 hb with hb | hb
    · exact HO.1 b hb
    · rw [(List.mem_replicate.1 hb).2]; omega
  · rw [List.length_append, List.length_replicate, nb, List.map_append, nums_append]
    exact h2

/-- How many bits the writer at g has, read off the world: for a loop's measure. -/
def wbits (w : World) (g : Nat) : Nat := match w.cell? ⟨g, 1, none⟩ with
  | some v => (intOf v).toNat
  | none => 0
theorem wbits_eq {w : World} {B g m : Nat} {v : Value} {bs : List Nat} (h : Wr w B g v bs m) : wbits w g = m := by
  have hc1 : w.cell? ⟨g, 1, none⟩ = some (.int .i64 (m : Int)) := blk_cell h.blk 1
  simp [wbits, hc1, intOf]

set_option maxRecDepth 100000 in
set_option maxHeartbeats 2000000 in
theorem dput_any (w : World) (A : Option Addr) (c : Nat) (zs : List Int) (hr : RI w A zs) (hn : zs.length ≤ 1000) :
    Calls Try.prog 19 #[.slice A zs.length c] w fun e w' => ∃ v, e = .returned (.tuple #[v, .bool (okL zs)]) ∧ OB w' w.heap.size 5 v (putB zs) ∧ Below w.heap.size w w' := by
  obtain ⟨b, hb⟩ : ∃ b, okL zs = b := ⟨_, rfl⟩
  obtain ⟨ps, hps⟩ : ∃ ps, putB zs = ps := ⟨_, rfl⟩
  have HB := Aside0.mk hb
  have HP := Aside0.mk hps
  have HR := Aside0.mk hr
  rw [hb, hps]
  clear hb hps hr
  by_cases h0 : zs.length = 0
  · have hl0 : ((zs.length : Int) = 0) := by omega
    have hbf : b = false := by rw [← HB.out]; exact not_ok_head (.inl h0)
    have hpf : ps = [] := by rw [← HP.out, putB, if_neg (by rw [HB.out, hbf]; simp)]
    subst hbf hpf
    go_enter Try.func19, Try.ntmps19
    go_wp2_with fail
    go_ret2
    exact ⟨_, rfl, OB.nil _ _ _, Below.refl _ _⟩
  · have hl0 : ¬ ((zs.length : Int) = 0) := by omega
    obtain ⟨ad, rfl, hc0⟩ := HR.out.at_ 0 (by omega)
    rw [show ad.add 0 = ad from by cases ad; unfold Addr.add; split <;> simp_all] at hc0
    by_cases hz : zs.getD 0 0 = 0
    · rw [hz] at hc0
      have HZ := Aside0.mk hz
      have HN := Aside0.mk hn
      clear hz
      go_enter Try.func19, Try.ntmps19
      go_wp2_with fail
      refine (new_any w w.heap.size (Nat.le_refl _)).mono ?_
      rintro e w1 ⟨rfl, hW, hb1⟩
      have HW := Aside0.mk hW
      have HB1 := Aside0.mk hb1
      clear hW hb1 hc0
      go_wp2_with fail
      go_loopw [19] (fun i wr => ∃ (k : Nat) (v : Value) (bs : List Nat), k ≤ zs.length ∧ i = .int .i64 k ∧ Aside0 (Gd zs k ∧ Wr wr w.heap.size w.heap.size v bs (lastP zs k) ∧ val bs = sumTo zs k ∧ Below w.heap.size w wr)) (fun i _ => zs.length - (intOf i).toNat)
      case atStart => exact ⟨0, _, _, by omega, rfl, ⟨⟨HZ.out, fun i hi => by omega⟩, HW.out, rfl, HB1.out⟩⟩
      case round =>
        obtain ⟨k, v, bs, hk, rfl, HK⟩ := hrel
        by_cases hlt : k < zs.length
        · obtain ⟨ad2, e2, hck⟩ := (HR.out.below (HK.out.2.2.2)).at_ k hlt
          obtain rfl : ad = ad2 := by injection e2
          clear e2
          obtain ⟨x, hx⟩ : ∃ x, zs.getD k 0 = x := ⟨_, rfl⟩
          rw [hx] at hck
          have HX := Aside0.mk hx
          clear hx
          by_cases hx1 : 256 ≤ x
          · have hbf : b = false := by rw [← HB.out]; exact not_ok_bad hlt ((bad_iff zs k).2 (.inl (by rw [HX.out]; exact hx1)))
            have hpf : ps = [] := by rw [← HP.out, putB, if_neg (by rw [HB.out, hbf]; simp)]
            subst hbf hpf
            go_wp2_with fail
            go_ret2
            exact ⟨_, rfl, OB.nil _ _ _, HK.out.2.2.2⟩
          by_cases hk0 : k = 0
          · obtain ⟨X, hX⟩ : ∃ X : Nat, x = X := ⟨x.toNat, by have := HZ.out; rw [← hk0, HX.out] at this; omega⟩
            subst hX hk0
            rw [Addr.add_zero'] at hck
            have HG := Aside0.mk (HK.out.1.succ ((bad_not zs 0).2 ⟨by rw [HX.out]; omega, fun h => by omega⟩))
            go_wp2_with fail
            go_loopw [] (fun wr => ∃ (m : Nat) (v : Value) (bs : List Nat), m ≤ X ∧ Aside0 (Wr wr w.heap.size w.heap.size v bs m ∧ val bs = sumTo zs 0 ∧ Below w.heap.size w wr)) (fun wr => X - wbits wr w.heap.size)
            case atStart => exact ⟨lastP zs 0, v, bs, by have h9 := HG.out.last; rw [HX.out] at h9; simpa using h9, ⟨HK.out.2.1, HK.out.2.2.1, HK.out.2.2.2⟩⟩
            case round =>
              obtain ⟨m, v2, bs2, hm, HM⟩ := hrel
              have hp0 := put_any wr w.heap.size w.heap.size m 0 1 v2 bs2 HM.out.1 (by omega) (by omega) (by omega)
              have hp1 := put_any wr w.heap.size w.heap.size m 1 1 v2 bs2 HM.out.1 (by omega) (by omega) (by omega)
              rw [show ((0 : Nat) : Int) = 0 from rfl, show ((1 : Nat) : Int) = 1 from rfl] at hp0
              rw [show ((1 : Nat) : Int) = 1 from rfl] at hp1
              have HP0 := Aside0.mk hp0
              have HP1 := Aside0.mk hp1
              have hsz := HM.out.2.2.size
              clear hp0 hp1
              go_wp2_with fail
              refine (bits_any wr w.heap.size w.heap.size m v2 bs2 HM.out.1).mono ?_
              rintro e w3 ⟨rfl, rfl⟩
              by_cases hmX : m < X
              · have hmi : ((m : Int) < (X : Int)) := by omega
                go_wp2_with fail
                refine HP0.out.mono ?_
                rintro e w3 ⟨rfl, v3, bs3, hW3, hv3, hk3, hn3⟩
                have H3 := Aside0.mk (And.intro hW3 (And.intro hv3 (wr_below HM.out.1 hk3 HM.out.2.2 hsz)))
                clear hW3 hv3 hk3 hn3
                go_wp2_with fail
                go_roundw
                case rel => exact ⟨m + 1, v3, bs3, by omega, ⟨H3.out.1, by rw [H3.out.2.1, HM.out.2.1]; simp, H3.out.2.2⟩⟩
                case measure => rw [wbits_eq H3.out.1, wbits_eq HM.out.1]; omega
              · obtain rfl : m = X := by omega
                have hmi : ¬ ((m : Int) < (m : Int)) := by omega
                go_wp2_with fail
                refine HP1.out.mono ?_
                rintro e w3 ⟨rfl, v3, bs3, hW3, hv3, hk3, hn3⟩
                have H3 := Aside0.mk (And.intro hW3 (And.intro hv3 (wr_below HM.out.1 hk3 HM.out.2.2 hsz)))
                clear hW3 hv3 hk3 hn3
                go_wp2_with fail
                go_roundw
                case rel =>
                  refine ⟨0 + 1, v3, bs3, by omega, by go_num, ⟨HG.out, ?_, ?_, H3.out.2.2⟩⟩
                  · rw [lastP, if_neg (by omega), Nat.add_sub_cancel, HX.out]; exact H3.out.1
                  · rw [H3.out.2.1, HM.out.2.1, show sumTo zs (0 + 1) = sumTo zs 0 + 2 ^ (zs.getD 0 0).toNat from rfl, HX.out]; simp
                case measure => simp [intOf]; omega
          · have hki : ((0 : Int) < (k : Int)) := by omega
            obtain ⟨ad2, e2, hcj⟩ := (HR.out.below (HK.out.2.2.2)).at_ (k - 1) (by omega)
            obtain rfl : ad = ad2 := by injection e2
            clear e2
            obtain ⟨y, hy⟩ : ∃ y, zs.getD (k - 1) 0 = y := ⟨_, rfl⟩
            rw [hy] at hcj
            have HY := Aside0.mk hy
            clear hy
            by_cases hxy : x ≤ y
            · have hbf : b = false := by rw [← HB.out]; exact not_ok_bad hlt ((bad_iff zs k).2 (.inr (by rw [HX.out, HY.out]; exact ⟨by omega, hxy⟩)))
              have hpf : ps = [] := by rw [← HP.out, putB, if_neg (by rw [HB.out, hbf]; simp)]
              subst hbf hpf
              go_wp2_with fail
              go_ret2
              exact ⟨_, rfl, OB.nil _ _ _, HK.out.2.2.2⟩
            · obtain ⟨X, hX⟩ : ∃ X : Nat, x = X := ⟨x.toNat, by have h9 := HK.out.1.nonneg (k - 1) (by omega); rw [HY.out] at h9; omega⟩
              subst hX
              have HG := Aside0.mk (HK.out.1.succ ((bad_not zs k).2 ⟨by rw [HX.out]; omega, fun h => by rw [HX.out, HY.out]; omega⟩))
              go_wp2_with fail
              go_loopw [] (fun wr => ∃ (m : Nat) (v : Value) (bs : List Nat), m ≤ X ∧ Aside0 (Wr wr w.heap.size w.heap.size v bs m ∧ val bs = sumTo zs k ∧ Below w.heap.size w wr)) (fun wr => X - wbits wr w.heap.size)
              case atStart => exact ⟨lastP zs k, v, bs, by have h9 := HG.out.last; rw [HX.out] at h9; simpa using h9, ⟨HK.out.2.1, HK.out.2.2.1, HK.out.2.2.2⟩⟩
              case round =>
                obtain ⟨m, v2, bs2, hm, HM⟩ := hrel
                have hp0 := put_any wr w.heap.size w.heap.size m 0 1 v2 bs2 HM.out.1 (by omega) (by omega) (by omega)
                have hp1 := put_any wr w.heap.size w.heap.size m 1 1 v2 bs2 HM.out.1 (by omega) (by omega) (by omega)
                rw [show ((0 : Nat) : Int) = 0 from rfl, show ((1 : Nat) : Int) = 1 from rfl] at hp0
                rw [show ((1 : Nat) : Int) = 1 from rfl] at hp1
                have HP0 := Aside0.mk hp0
                have HP1 := Aside0.mk hp1
                have hsz := HM.out.2.2.size
                clear hp0 hp1
                go_wp2_with fail
                refine (bits_any wr w.heap.size w.heap.size m v2 bs2 HM.out.1).mono ?_
                rintro e w3 ⟨rfl, rfl⟩
                by_cases hmX : m < X
                · have hmi : ((m : Int) < (X : Int)) := by omega
                  go_wp2_with fail
                  refine HP0.out.mono ?_
                  rintro e w3 ⟨rfl, v3, bs3, hW3, hv3, hk3, hn3⟩
                  have H3 := Aside0.mk (And.intro hW3 (And.intro hv3 (wr_below HM.out.1 hk3 HM.out.2.2 hsz)))
                  clear hW3 hv3 hk3 hn3
                  go_wp2_with fail
                  go_roundw
                  case rel => exact ⟨m + 1, v3, bs3, by omega, ⟨H3.out.1, by rw [H3.out.2.1, HM.out.2.1]; simp, H3.out.2.2⟩⟩
                  case measure => rw [wbits_eq H3.out.1, wbits_eq HM.out.1]; omega
                · obtain rfl : m = X := by omega
                  have hmi : ¬ ((m : Int) < (m : Int)) := by omega
                  go_wp2_with fail
                  refine HP1.out.mono ?_
                  rintro e w3 ⟨rfl, v3, bs3, hW3, hv3, hk3, hn3⟩
                  have H3 := Aside0.mk (And.intro hW3 (And.intro hv3 (wr_below HM.out.1 hk3 HM.out.2.2 hsz)))
                  clear hW3 hv3 hk3 hn3
                  go_wp2_with fail
                  go_roundw
                  case rel =>
                    refine ⟨k + 1, v3, bs3, by omega, by go_num, ⟨HG.out, ?_, ?_, H3.out.2.2⟩⟩
                    · rw [lastP, if_neg (by omega), Nat.add_sub_cancel, HX.out]; exact H3.out.1
                    · rw [H3.out.2.1, HM.out.2.1, show sumTo zs (k + 1) = sumTo zs k + 2 ^ (zs.getD k 0).toNat from rfl, HX.out]; simp
                  case measure => simp [intOf]; omega
        · obtain rfl : k = zs.length := by omega
          have hb8 := HK.out.1.last_le
          have hbt : b = true := by rw [← HB.out]; exact ok_of_good (by omega) HK.out.1
          have hpt : ps = put32 (sumTo zs zs.length) := by rw [← HP.out, putB, if_pos (by rw [HB.out, hbt])]
          subst hbt
          have hlen := HK.out.2.1.len
          go_wp2_with fail
          refine (bytes_any wr w.heap.size w.heap.size _ v bs HK.out.2.1 (by omega)).mono ?_
          rintro e w2 ⟨r1, rfl, ho1, hb1⟩
          have hz := HK.out.2.2.2.size
          have HW2 := Aside0.mk (And.intro HK.out.2.1 hb1)
          have HO1 := Aside0.mk ho1
          clear ho1 hb1
          have hW2 : Wr w2 w.heap.size w.heap.size v bs (lastP zs zs.length) := by
            have h := HW2.out.1
            exact ⟨h.base, (HW2.out.2.block _ (blk_lt h.blk)).trans h.blk, h.row.below HW2.out.2, h.len, h.vlt⟩
          have HWX := Aside0.mk hW2
          clear hW2
          go_wp2_with fail
          refine (bytes_any w2 w.heap.size w.heap.size _ v bs HWX.out (by omega)).mono ?_
          rintro e w3 ⟨r2, rfl, ho2, hb2⟩
          obtain ⟨A2, c2, rfl, -⟩ := ho2.reads
          have HO3 := Aside0.mk ((HO1.out.below hb2).lower hz)
          have HB3 := Aside0.mk (below_then (below_then HK.out.2.2.2 hz HW2.out.2) (Nat.le_trans hz HW2.out.2.size) hb2)
          have hz3 := HB3.out.size
          have hl32 : bs.length ≤ 32 := by omega
          clear ho2 hb2
          go_wp2_with (at_builtin; refine OB.append_zeros (w0 := w) w.heap.size rfl _ _ 22 3 5 rfl Try.underlying22 Try.underlying3 info_u8 _ bs (32 - bs.length) rfl rfl (by omega) HO3.out HB3.out hz3 (by omega) ?_; intro v1 w4 hown1 hbel1)
          go_ret2
          refine ⟨_, rfl, ?_, hbel1⟩
          have hl : (bs ++ List.replicate (32 - bs.length) 0).length = 32 := by simp; omega
          have he := eq_put32 _ hown1.1 hl
          rw [val_pad, HK.out.2.2.1] at he
          rw [hpt, ← he]; exact hown1
    · have hbf : b = false := by rw [← HB.out]; exact not_ok_head (.inr hz)
      have hpf : ps = [] := by rw [← HP.out, putB, if_neg (by rw [HB.out, hbf]; simp)]
      subst hbf hpf
      generalize zs.getD 0 0 = x at *
      have hxb : (x != 0) = true := by simpa using hz
      have hlb : ((zs.length : Int) == 0) = false := by simpa using hl0
      go_enter Try.func19, Try.ntmps19
      go_wp2_with fail
      go_ret2
      exact ⟨_, rfl, OB.nil _ _ _, Below.refl _ _⟩
end Go.Proofs.Ytdgomddbppgkmaa.Dir
