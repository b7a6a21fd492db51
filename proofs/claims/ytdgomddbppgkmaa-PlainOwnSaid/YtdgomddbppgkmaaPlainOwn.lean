/- Proved here: the law PlainOwn returns true for every input and changes nothing that was there. Conditions: none. -/
import Derived.Test.YtdgomddbppgkmaaPlainLaws
namespace Go.Proofs.Ytdgomddbppgkmaa.Plain
open Go.RowKit Go.Proofs.YtdgomddbppgkmaaW.PrintWords Go.Proofs.Ytdgomddbppgkmaa.CrcM Go.Proofs.Ytdgomddbppgkmaa.BitsM Go.Proofs.Ytdgomddbppgkmaa.Base Go.Proofs.Ytdgomddbppgkmaa.Bitw

set_option maxRecDepth 100000 in
set_option maxHeartbeats 400000 in
theorem own_long (c v : Nat) (A : Option Addr) (l : Nat) (w : World) (hn : 300 < l ∨ l = 0) :
    Calls Try.prog 6 #[.slice A l c, .int .u8 (v : Int)] w fun e w' => e = .returned (.bool true) ∧ Below w.heap.size w w' := by
  rcases hn with hn | rfl
  all_goals
    go_enter Try.func6, Try.ntmps6
    go_wp2_with (go_at_call 12; refine (awake_any _).mono ?_; rintro e w1 ⟨rfl, hb1⟩)
    go_ret
    exact ⟨rfl, hb1⟩
set_option maxRecDepth 100000 in
set_option maxHeartbeats 1000000 in
theorem own_short (c v : Nat) (A : Option Addr) (bs : List Nat) (w : World) (hr : RB w A bs) (hn : bs.length ≤ 300) (hp : 0 < bs.length) (hv : v < 256) :
    Calls Try.prog 6 #[.slice A bs.length c, .int .u8 (v : Int)] w fun e w' => e = .returned (.bool true) ∧ Below w.heap.size w w' := by
  have HR := Aside0.mk hr
  clear hr
  have hne : ((bs.length : Int) == 0) = false := by rw [beq_eq_false_iff_ne]; omega
  go_enter Try.func6, Try.ntmps6
  go_wp2_with (first
    | (go_at_call 12; refine (awake_any _).mono ?_; rintro e w1 ⟨rfl, hb1⟩)
    | (at_builtin; refine OB.append (w0 := w1) w1.heap.size rfl (.tmp 21) (.tmp 22) 22 5 rfl Try.underlying22 info_u8 _ [] bs A c rfl rfl (OB.lit w1 _ _ [] (by simp) (Nat.le_refl _) (by simp)) ((HR.out.below hb1).below (below_alloc (Below.refl _ _) _)) (below_alloc (Below.refl _ _) _) (by simp) (by simp; omega) ?_; intro v1 w2 hown1 hbel1 hgr1 hat1; rw [List.nil_append] at hown1))
  obtain ⟨Ac, cc, rfl, hq⟩ := hown1.reads
  have hb2 := below_then hb1 hb1.size hbel1
  have OC := Aside0.mk hown1
  have OClt := Aside0.mk hown1.lt
  have QC := Aside0.mk hq
  have h12 := hbel1.size
  clear hown1 hq hgr1 hat1 hbel1
  refine (encode_any w2 0 Ac cc bs QC.out (by omega)).mono ?_
  rintro e w3 ⟨vx, rfl, hox, hb3⟩
  rw [show errOf (enc 0 bs) = 0 from rfl]
  have X3 : Aside0 (OB w3 w2.heap.size 5 vx bs) := ⟨hox⟩
  have hb3' := below_then hb2 hb2.size hb3
  have QC3 := Aside0.mk (QC.out.below hb3)
  have OC3 := Aside0.mk (OC.out.below hb3)
  have h23 := hb3.size
  clear hox QC hb3
  go_wp2_with fail
  refine (decode_any w3 0 (bs.length : Int) Ac cc bs QC3.out (by omega) (by omega)).mono ?_
  rintro e w4 ⟨vy, rfl, hoy, hb4⟩
  have hde : dec 0 bs (bs.length : Int) = (0, bs) := by unfold dec; rw [if_pos ⟨.inl rfl, by omega, by omega⟩, if_pos rfl, if_pos rfl]
  rw [hde] at hoy ⊢
  have Y4 : Aside0 (OB w4 w3.heap.size 5 vy bs) := ⟨hoy⟩
  have X4 := Aside0.mk (X3.out.below hb4)
  have OC4 := Aside0.mk (OC3.out.below hb4)
  have hb4' := below_then hb3' hb3'.size hb4
  have h34 := hb4.size
  have Xlt := Aside0.mk X3.out.lt
  clear hoy hde QC3 hb4
  obtain ⟨gx, px, rfl, hgx, hgx'⟩ := X4.out.form hp
  obtain ⟨gy, py, rfl, hgy, hgy'⟩ := Y4.out.form hp
  have hxlt : gx < w3.heap.size := Xlt.out gx rfl
  obtain ⟨hx1, hx2⟩ := X4.out.at_ 0 hp
  obtain ⟨hy1, hy2⟩ := Y4.out.at_ 0 hp
  have hc8 := HR.out.lt 0
  have hbx : bits .xor .u8 ((bs.getD 0 0 : Nat) : Int) (v : Int) = ((bs.getD 0 0 ^^^ v : Nat) : Int) := u8_xor_nat _ v hc8 hv
  have hz8 : bs.getD 0 0 ^^^ v < 256 := Nat.xor_lt_two_pow (n := 8) hc8 hv
  have hxy : gx ≠ gy := by omega
  have KK := (Keep.refl (fun i => i = gx) w4).setCell ⟨gx, 0, none⟩ (fun _ => rfl) (.int .u8 ((bs.getD 0 0 ^^^ v : Nat) : Int))
  obtain ⟨hy3, hy4⟩ := (Y4.out.keep KK (fun q hq e => by have h9 : gy = q := (by simpa [Value.ownBlock] using hq); have e' : q = gx := e; omega)).at_ 0 hp
  clear KK
  generalize bs.getD 0 0 = x0 at *
  generalize x0 ^^^ v = z at *
  go_wp2_with fail
  have K2 := ((Keep.refl (fun i => i = gx ∨ i = gy) w4).setCell ⟨gx, 0, none⟩ (fun _ => .inl rfl) (.int .u8 (z : Int))).setCell ⟨gy, 0, none⟩ (fun _ => .inr rfl) (.int .u8 (z : Int))
  have h02 := hb2.size
  have hb5 := hb4'.trans (K2.below (B := w.heap.size) hb4'.size (fun i hi => by rcases hi with rfl | rfl <;> omega))
  have HRF := Aside0.mk (HR.out.below hb5)
  have OCF := OC4.out.keep K2 (fun q hq e => by have := OClt.out q hq; rcases e with e | e <;> omega)
  obtain ⟨Af, cf, hef, qf⟩ := OCF.reads
  injection hef with hA hB hC
  subst hA hC
  have QF := Aside0.mk qf
  clear hB qf OCF K2
  generalize ((w4.setCell ⟨gx, 0, none⟩ (.int .u8 (z : Int))).setCell ⟨gy, 0, none⟩ (.int .u8 (z : Int))) = W at *
  refine (same_any W A Ac c cc bs bs HRF.out QF.out).mono ?_
  rintro e w7 ⟨rfl, rfl⟩
  rw [beq_self_eq_true]
  go_wp2_with fail
  go_ret
  exact ⟨rfl, hb5⟩
theorem own_walk (a0 : Option Addr) (len0 cap0 : Nat) (z0 : List Int) (a1 : Int) (w : World) (w0 : IsRow .u8 w a0 len0 cap0 z0) (_y0 : len0 * 1 ≤ 140737488351232) (w1 : (Lit.int .u8 a1).wf = true) :
    Calls Try.prog 6 #[.slice a0 len0 cap0, .int .u8 a1] w fun e w' => e = .returned (.bool true) ∧ Below w.heap.size w w' := by
  obtain ⟨bs, rfl, hr, _⟩ := RB.of_row w0
  have h2 := u8_range w1
  obtain ⟨v, rfl⟩ := Int.eq_ofNat_of_zero_le h2.1
  by_cases h : 300 < bs.length ∨ bs.length = 0
  · exact own_long cap0 v a0 _ w h
  · exact own_short cap0 v a0 bs w hr (by omega) (by omega) (by omega)
end Go.Proofs.Ytdgomddbppgkmaa.Plain
