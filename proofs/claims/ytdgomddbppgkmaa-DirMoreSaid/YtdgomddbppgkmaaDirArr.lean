/- Proved here: what an array of 256 Booleans is in memory when it is laid, and what ctx.At computes. Conditions: each theorem's own. -/
import Derived.Test.YtdgomddbppgkmaaDirLists
namespace Go.Proofs.Ytdgomddbppgkmaa.Dir
open Go.RowKit Go.Proofs.YtdgomddbppgkmaaW.PrintWords Go.Proofs.Ytdgomddbppgkmaa.CrcM Go.Proofs.Ytdgomddbppgkmaa.BitsM Go.Proofs.Ytdgomddbppgkmaa.Base Go.Proofs.Ytdgomddbppgkmaa.Bitw Go.Proofs.Ytdgomddbppgkmaa.DirM

/-- The context of the i-th byte, i being one of them. -/
def ctxAt (bs : List Nat) (i : Nat) : Nat := if i = 0 then 0 else bs.getD (i - 1) 0

set_option maxRecDepth 100000 in
set_option maxHeartbeats 1000000 in
theorem at_any (w : World) (A : Option Addr) (c : Nat) (bs : List Nat) (i : Nat) (hr : RB w A bs) (hi : i < bs.length) (hn : bs.length ≤ 1000) :
    Calls Try.prog 35 #[.slice A bs.length c, .int .i64 (i : Int)] w fun e w' => e = .returned (.int .i64 (ctxAt bs i : Int)) ∧ w' = w := by
  have hd1 : decide ((i : Int) < 0) = false := by simp
  have hd2 : decide ((bs.length : Int) ≤ (i : Int)) = false := by simp; omega
  have hd3 : decide (bs.length ≤ i) = false := by simp; omega
  by_cases h0 : i = 0
  · subst h0
    have HC : ctxAt bs 0 = 0 := rfl
    rw [HC]
    clear hr HC
    have hb1 : ¬ bs.length = 0 := by omega
    have hb2 : ¬ bs = [] := fun e => hb1 (by rw [e]; rfl)
    have hd4 : decide ((bs.length : Int) ≤ 0) = false := by simp; exact hb2
    go_enter Try.func35, Try.ntmps35
    go_wp2_with fail
    go_ret
    exact ⟨ret_int rfl, rfl⟩
  · obtain ⟨ad, rfl, hc⟩ := hr.at_ (i - 1) (by omega)
    have hx8 := hr.lt (i - 1)
    have HC : ctxAt bs i = bs.getD (i - 1) 0 := by rw [ctxAt, if_neg h0]
    rw [HC]
    clear hr HC
    generalize bs.getD (i - 1) 0 = x at *
    have hib : ((i : Int) == 0) = false := by rw [beq_eq_false_iff_ne]; omega
    have hin : ¬ ((i : Int) = 0) := by omega
    go_enter Try.func35, Try.ntmps35
    go_wp2_with fail
    go_ret
    exact ⟨rfl, rfl⟩

def mt (bs : List Nat) (k j : Nat) : Bool := (List.range k).any fun i => ctxAt bs i == j
theorem info_arr : (Try.prog.info? 54).map (fun i => (i.zero, i.size, i.bytes)) = some (some (.agg (madeCells #[.bool false] 256)), 256, 256) := by kernel_rfl
theorem zero_arr (W : World) : (zeroValue 54).run Try.prog W = .ok (.agg (madeCells #[.bool false] 256)) W := by
  obtain ⟨i0, hi, hz0, _, _⟩ := info_parts info_arr
  simp [zeroValue, typeInfo, hi, hz0]

theorem info_bool : (Try.prog.info? 4).map (fun i => (i.zero, i.size, i.bytes)) = some (some (.bool false), 1, 1) := by kernel_rfl
theorem index_arr (cs : Array Value) (k : Nat) (b : Bool) (hk : k < 256) (he : cs[k]? = some (.bool b)) (W : World) :
    (Instr.index 54 (.agg cs) (.int .i64 (k : Int))).run Try.prog W = .ok (.bool b) W := by
  obtain ⟨i0, hi, _, hs, _⟩ := info_parts info_bool
  have h1 : (0 : Int) ≤ (k : Int) ∧ (k : Int) < 256 := by omega
  simp [Instr.index, asIntOf, Sem.run_bind, run_underlying Try.underlying54, run_underlying Try.underlying4, part, isAgg, sizeOf, typeInfo, hi, hs, h1, he, hk, Result.andThen]
end Go.Proofs.Ytdgomddbppgkmaa.Dir
