/- The laws' own functions on arguments: sizes, copies, comparisons (points). -/
import Derived.Test.YtiddodphfbohmaaGeo
import Derived.Deep.RegionHeld3
import Derived.Deep.RegionWith
import Derived.Laws.OwnMore
import Derived.Laws.MakeOwn
namespace Go.Proofs.Ytiddodphfbohmaa
open Go.RowKit
theorem toPoint_c (x y : Int) (w : World) : Calls Try.prog 59 #[.agg #[.int .i64 x, .int .i64 y]] w fun e w' => e = .returned (.agg #[.int .i64 x, .int .i64 y]) ∧ Bel w w' := by
  go_enter Try.func59, Try.ntmps59
  go_wp2
  exact bodyPost_ret (v := .agg #[.int .i64 x, .int .i64 y]) (by simp [results, Try.results59, go_sem]) rfl ⟨rfl, (by repeat (first | assumption | exact Bel.refl _ | refine Bel.alloc ?_ _ | refine Bel.drew ?_ | refine Bel.drewN ?_ _ | (apply Bel.snart; assumption)))⟩
theorem eqPoint_same (a b : Int) (w : World) : Calls Try.prog 20 #[.agg #[.int .i64 a, .int .i64 b], .agg #[.int .i64 a, .int .i64 b]] w fun e w' => e = .returned (.bool true) ∧ Bel w w' := by
  go_enter Try.func20, Try.ntmps20
  go_wp2
  go_ret
  exact ⟨rfl, (by repeat (first | assumption | exact Bel.refl _ | refine Bel.alloc ?_ _ | refine Bel.drew ?_ | refine Bel.drewN ?_ _ | (apply Bel.snart; assumption)))⟩
set_option maxHeartbeats 400000 in
theorem eqPointS_same (v1 v2 : Value) (ps : List Pt) (w : World) (h1 : Pts w v1 ps) (h2 : Pts w v2 ps) : Calls Try.prog 21 #[v1, v2] w fun e w' => e = .returned (.bool true) ∧ Bel w w' := by
  obtain ⟨A, c, rfl, hc1, hc2, hf⟩ := h1.form
  obtain ⟨A', c', rfl, hc1', hc2', hf'⟩ := h2.form
  unfold maxLen at hc2
  go_enter Try.func21, Try.ntmps21
  go_wp2
  go_loopw [5] (fun i wr => ∃ k : Nat, k ≤ ps.length ∧ i = .int .i64 k ∧ Bel w wr) (fun i _ => ps.length - (intOf i).toNat)
  case atStart => exact ⟨0, Nat.zero_le _, rfl, Bel.refl _⟩
  case round =>
    obtain ⟨k, hk, rfl, hb⟩ := hrel
    by_cases hlt : k < ps.length
    · obtain ⟨b, off, rfl, hbs, hcell⟩ := hf (by omega)
      obtain ⟨b', off', rfl, hbs', hcell'⟩ := hf' (by omega)
      have c1 := hb.cell hbs (hcell k hlt).1
      have c2 := hb.cell hbs (hcell k hlt).2
      have c1' := hb.cell hbs' (hcell' k hlt).1
      have c2' := hb.cell hbs' (hcell' k hlt).2
      clear hcell hf hcell' hf'
      go_wp2
      go_region_with (go_at_call 20; refine (eqPoint_same _ _ _).mono ?_; rintro e w1 ⟨rfl, hb1⟩)
      all_goals
        go_wp2
        go_roundw
        case rel => exact ⟨k + 1, by omega, by go_num, (by repeat (first | assumption | exact Bel.refl _ | refine Bel.alloc ?_ _ | refine Bel.drew ?_ | refine Bel.drewN ?_ _ | (apply Bel.snart; assumption)))⟩
        case measure => simp [intOf]; omega
    · go_wp2
      go_ret
      exact ⟨rfl, hb⟩
def szR (n : Nat) (k : Int) : Int := if (n : Int) ≤ k then k - n else -1
theorem szPointS_c (v : Value) (ps : List Pt) (k : Int) (w : World) (hP : Pts w v ps) (h0 : 0 ≤ k) (h1 : k ≤ 1048576) : Calls Try.prog 16 #[v, .int .i64 k] w fun e w' => e = .returned (.int .i64 (szR ps.length k)) ∧ w = w' := by
  obtain ⟨A, c, rfl, hc1, hc2, -⟩ := hP.form
  unfold maxLen at hc2
  by_cases h : (ps.length : Int) ≤ k
  all_goals
    go_enter Try.func16, Try.ntmps16
    go_wp2
    go_ret
    exact ⟨ret_int (by unfold szR; split <;> omega), rfl⟩
theorem mkRow {P : Program} (t e : TypeId) (i : TypeInfo) (z : Value) (ht : P.underlying t = some (.slice e)) (hi : P.info? e = some i) (hz : i.zero = some z) (n : Nat) (hb : i.bytes * n ≤ 281474976710656) (hn : n ≤ 1048577) (w : World) :
    (Instr.makeSlice t (.int .i64 (n : Int)) (.int .i64 (n : Int))).run P w = .ok (.slice (some ⟨w.heap.size, 0, none⟩) n n) (w.alloc (.cells (madeCells z.cells (n * i.size)) e)) := by
  have hr := run_make (P := P) w t e i z ht hi hz .i64 .i64 n n (by omega) (by omega) (by have : ((i.bytes * n : Nat) : Int) ≤ 281474976710656 := by omega
                                                                                          rwa [Int.natCast_mul] at this) (by omega)
  simpa only [Int.toNat_natCast] using hr
theorem pt_info : (Try.prog.info? 25).map (fun i => (i.zero, i.size, i.bytes)) = some (some (.agg #[.int .i64 0, .int .i64 0]), 2, 16) := by kernel_rfl
set_option maxHeartbeats 400000 in
theorem toPointS_c (v : Value) (ps : List Pt) (w : World) (h1 : Pts w v ps) (hn : ps.length ≤ 1048576) : Calls Try.prog 18 #[v] w fun e w' => (∃ r, e = .returned r ∧ w'.ownsRow w.heap.size 25 2 r ps.length (ptCells ps)) ∧ Bel w w' := by
  obtain ⟨A, c, rfl, hc1, hc2, hf⟩ := h1.form
  unfold maxLen at hc2
  obtain ⟨i0, hi, hz0, hz1, hz2⟩ := info_parts pt_info
  have hmk := mkRow (P := Try.prog) 28 25 i0 _ Try.underlying28 hi hz0 ps.length (by rw [hz2]; omega) (by omega)
  rw [hz1] at hmk
  clear hi hz0 hz1 hz2
  go_enter Try.func18, Try.ntmps18
  go_wp2
  go_loopw [4] (fun i wr => ∃ (k : Nat) (xs : List Value), k ≤ ps.length ∧ i = .int .i64 k ∧ wr.ownsRow w.heap.size 25 2 (.slice (some ⟨w.heap.size, 0, none⟩) ps.length ps.length) ps.length xs ∧ (∀ j, j < k * 2 → xs[j]? = (ptCells ps)[j]?) ∧ Bel w wr) (fun i _ => ps.length - (intOf i).toNat)
  case atStart => exact ⟨0, _, Nat.zero_le _, rfl, World.ownsRow_lit w _ _ (Nat.le_refl _) (by unfold maxLen; omega) (by rw [size_madeCells]), fun j hj => by omega, (Bel.refl _).alloc _⟩
  case round =>
    obtain ⟨k, xs, hk, rfl, ho, hxs, hb⟩ := hrel
    by_cases hlt : k < ps.length
    · obtain ⟨b, off, rfl, hbs, hcell⟩ := hf (by omega)
      have c1 := hb.cell hbs (hcell k hlt).1
      have c2 := hb.cell hbs (hcell k hlt).2
      clear hcell hf
      go_wp2_with fail
      refine (toPoint_c _ _ _).mono ?_
      rintro e w1 ⟨rfl, hb1⟩
      have ho1 := own_bel ho hb1
      obtain ⟨u1, hu1⟩ := own_cell ho1 (k * 2) (by omega)
      obtain ⟨u2, hu2⟩ := own_cell ho1 (k * 2 + 1) (by omega)
      have fr1 := ho1.frozenAt (k * 2)
      have fr2 := ho1.frozenAt (k * 2 + 1)
      have hst := own_store2 ho1 k (.int .i64 ps[k].1) (.int .i64 ps[k].2)
      have hpre := set2_prefix (xs := xs) (by rw [ho.1]; omega) hxs (ptCells_x ps k hlt).1 (ptCells_x ps k hlt).2
      have hbel : Bel w ((w1.setCell ⟨w.heap.size, k * 2, none⟩ (.int .i64 ps[k].1)).setCell ⟨w.heap.size, k * 2 + 1, none⟩ (.int .i64 ps[k].2)) := ((hb.trans hb1).setCell (Nat.le_refl _) _).setCell (Nat.le_refl _) _
      have HST := Lib.hid (And.intro hst.1 (And.intro hpre hbel))
      clear hst hpre hbel hmk hxs
      go_wp2
      go_roundw
      case rel => exact ⟨k + 1, _, by omega, by go_num, HST.out.1, HST.out.2.1, HST.out.2.2⟩
      case measure => simp [intOf]; omega
    · go_wp2
      go_ret
      have hk' : k = ps.length := by omega
      subst hk'
      refine ⟨⟨_, rfl, ?_⟩, hb⟩
      rw [← eq_of_prefix ho.1 (ptCells_length ps) hxs]
      exact ho
end Go.Proofs.Ytiddodphfbohmaa
