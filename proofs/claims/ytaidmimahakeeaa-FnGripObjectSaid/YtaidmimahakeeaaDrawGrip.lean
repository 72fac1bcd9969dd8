/- What DrawHoldsWeight and DrawGripStep draw: numbers in bounds. -/
import Derived.Test.YtaidmimahakeeaaTyped
namespace Go.Proofs.Ytaidmimahakeeaa
open Go.RowKit
def sigP (f : FuncId) (l : List AV) : Option AV :=
  match l with
  | [.rdr, .i a b] => if f == 33 && okI a b then (if decide (b < 1) then some (.i 0 0) else some (.i 0 (b - 1))) else none
  | _ => none
theorem sigPick (r : Nat) : SigOK r sigP := by
  intro f avs t h args w P hA hR hP
  unfold sigP at h
  split at h
  · rename_i a b
    split at h
    · rename_i hk
      simp only [Bool.and_eq_true, beq_iff_eq, okI_iff] at hk
      obtain ⟨rfl, hk1, hk2, hk3⟩ := hk
      obtain ⟨l⟩ := args
      match l, hA with
      | [v, x], hA =>
        obtain ⟨rfl, ⟨n, rfl, hn1, hn2⟩, -⟩ := hA
        refine ⟨by simp [go_sem], (pick_c r P n w hR (by omega)).mono ?_⟩
        rintro e w' ⟨k, rfl, ⟨h0, h1⟩, hR', ho⟩
        refine ⟨_, rfl, ?_, hR'.more (by omega), ho⟩
        by_cases hn : n < 1
        · rw [h0 hn]
          split at h
          · injection h with h; subst h; exact ⟨0, rfl, by omega, by omega⟩
          · rename_i hb; simp at hb; injection h with h; subst h; exact ⟨0, rfl, by omega, by omega⟩
        · have := h1 (by omega)
          split at h
          · rename_i hb; simp at hb; omega
          · injection h with h; subst h; exact ⟨k, rfl, by omega, by omega⟩
      | [], hA => exact absurd hA id
      | [v], hA => exact absurd hA.2 id
      | v :: x :: y :: l, hA => exact absurd hA.2.2 id
    · cases h
  · cases h
theorem results_tmp4 {fn : Func} {t u v x : Tmp} (h : fn.results = #[.tmp t, .tmp u, .tmp v, .tmp x]) (tmps : Array Value) (P : Program) (w : World) :
    (results fn tmps).run P w = .ok (.tuple #[tmps.getD t undef, tmps.getD u undef, tmps.getD v undef, tmps.getD x undef]) w := by simp [results, h]
set_option maxHeartbeats 1000000 in
theorem DrawHoldsWeight_c (v : Value) (A : Option Addr) (n c : Nat) (w : World) (hv : v = .slice A n c) (hn : n ≤ 1048576) (hc : n ≤ c) (hc2 : c ≤ maxLen) (hb : BytesIn w A n w.heap.size) :
    Calls Try.prog 14 #[v] w fun e w' => (∃ f u x : Int, e = .returned (.tuple #[.int .i64 f, .int .i64 u, .int .i64 x]) ∧ -10000 ≤ f ∧ f ≤ 10000 ∧ -10000 ≤ u ∧ u ≤ 10000 ∧ -10000 ≤ x ∧ x ≤ 10000) ∧ Bel w w' := by
  subst hv
  go_enter Try.func14, Try.ntmps14
  go_wp2_with fail
  refine (l20Open_c _ _ _ _ _ rfl hn hc hc2 hb).mono ?_
  rintro e w1 ⟨r, rfl, hR0, hr, hB⟩
  go_wp2_with fail
  refine (pick_c r 0 _ _ hR0 (by omega)).mono ?_
  rintro e w2 ⟨k1, rfl, ⟨-, hk1⟩, hR1, hO1⟩
  obtain ⟨hk1a, hk1b⟩ := hk1 (by omega)
  go_wp2_with fail
  refine (pick_c r 1 _ _ hR1 (by omega)).mono ?_
  rintro e w3 ⟨k2, rfl, ⟨-, hk2⟩, hR2, hO2⟩
  obtain ⟨hk2a, hk2b⟩ := hk2 (by omega)
  clear hk1 hk2
  go_wp2_with fail
  refine (pick_c r 2 _ _ hR2 (by omega)).mono ?_
  rintro e w4 ⟨k3, rfl, ⟨-, hk3⟩, hR3, hO3⟩
  obtain ⟨hk3a, hk3b⟩ := hk3 (by omega)
  clear hk3
  go_wp2_with fail
  have hpick := sigPick r
  refine region_typed hpick [(5, .rdr), (6, .i (-20) 1100), (7, .i 0 201)] [(2, .i (-10000) 10000), (3, .i (-10000) 10000), (4, .i (-10000) 10000)] [(20, 38), (2, 4)] (by kernel_rfl) (by kernel_rfl) hR3 ⟨rfl, ⟨_, rfl, by omega, by omega⟩, ⟨_, rfl, by omega, by omega⟩, trivial⟩ (by decide) ?_
  intro u w5 hu hR4 hO4
  simp only [merge, inR, List.any_cons, List.any_nil, Nat.reduceLeDiff, Nat.reduceAdd, decide_true, decide_false, Bool.and_true, Bool.and_false, Bool.true_and, Bool.false_and, Bool.or_false, Bool.or_true, Bool.false_or, Bool.true_or, Bool.false_eq_true, if_true, if_false, Nat.zero_le]
  obtain ⟨⟨f, hf, f1, f2⟩, ⟨y, hy, y1, y2⟩, ⟨x, hx, x1, x2⟩, -⟩ := hu
  rw [hf, hy, hx]
  clear hf hy hx
  go_wp2
  go_ret3
  exact ⟨⟨f, y, x, rfl, f1, f2, y1, y2, x1, x2⟩, (Only.bel hB (((hO1.trans hO2).trans hO3).trans hO4) hr)⟩
set_option maxHeartbeats 1000000 in
theorem DrawGripStep_c (v : Value) (A : Option Addr) (n c : Nat) (w : World) (hv : v = .slice A n c) (hn : n ≤ 1048576) (hc : n ≤ c) (hc2 : c ≤ maxLen) (hb : BytesIn w A n w.heap.size) :
    Calls Try.prog 21 #[v] w fun e w' => (∃ a b s o : Int, e = .returned (.tuple #[.int .i64 a, .int .i64 b, .int .i64 s, .int .i64 o]) ∧ -10000 ≤ a ∧ a ≤ 10000 ∧ -10000 ≤ b ∧ b ≤ 10000 ∧ -10000 ≤ s ∧ s ≤ 10000 ∧ -10000 ≤ o ∧ o ≤ 10000) ∧ Bel w w' := by
  subst hv
  go_enter Try.func21, Try.ntmps21
  go_wp2_with fail
  refine (l20Open_c _ _ _ _ _ rfl hn hc hc2 hb).mono ?_
  rintro e w1 ⟨r, rfl, hR0, hr, hB⟩
  have hsig := sigPick r
  go_upto_region 2 with (fail)
  refine region_typedL hsig [(6, .rdr)] [(7, .i (-1) 201)] [(12, 14), (7, 7)] (by kernel_rfl) (by assumption) ⟨rfl, trivial⟩ (by simp) ?_
  intro u2 w2 hu_ hRw2 hOw2
  simp only [merge, inR, List.any_cons, List.any_nil, Nat.reduceLeDiff, Nat.reduceAdd, decide_true, decide_false, Bool.and_true, Bool.and_false, Bool.true_and, Bool.false_and, Bool.or_false, Bool.or_true, Bool.false_or, Bool.true_or, Bool.false_eq_true, if_true, if_false, Nat.zero_le]
  obtain ⟨⟨a, ha, a1, a2⟩, -⟩ := hu_
  rw [ha]
  go_upto_region 3 with (fail)
  refine region_typedL hsig [(6, .rdr)] [(8, .i 0 200)] [(15, 16), (8, 8)] (by kernel_rfl) (by assumption) ⟨rfl, trivial⟩ (by simp) ?_
  intro u3 w3 hu_ hRw3 hOw3
  simp only [merge, inR, List.any_cons, List.any_nil, Nat.reduceLeDiff, Nat.reduceAdd, decide_true, decide_false, Bool.and_true, Bool.and_false, Bool.true_and, Bool.false_and, Bool.or_false, Bool.or_true, Bool.false_or, Bool.true_or, Bool.false_eq_true, if_true, if_false, Nat.zero_le]
  obtain ⟨⟨b, hb', b1, b2⟩, -⟩ := hu_
  rw [hb']
  go_upto_region 4 with (fail)
  refine region_typedL hsig [(6, .rdr)] [(9, .i 0 200)] [(17, 27), (9, 9)] (by kernel_rfl) (by assumption) ⟨rfl, trivial⟩ (by simp) ?_
  intro u4 w4 hu_ hRw4 hOw4
  simp only [merge, inR, List.any_cons, List.any_nil, Nat.reduceLeDiff, Nat.reduceAdd, decide_true, decide_false, Bool.and_true, Bool.and_false, Bool.true_and, Bool.false_and, Bool.or_false, Bool.or_true, Bool.false_or, Bool.true_or, Bool.false_eq_true, if_true, if_false, Nat.zero_le]
  obtain ⟨⟨s, hs, s1, s2⟩, -⟩ := hu_
  rw [hs]
  go_upto_region 5 with (fail)
  refine region_typed hsig [(6, .rdr), (7, .i (-1) 201), (8, .i 0 200), (9, .i 0 200)] [(2, .i (-1) 201), (3, .i (-1) 201), (4, .i 0 200), (5, .i 0 201)] [(28, 51), (2, 5)] (by kernel_rfl) (by kernel_rfl) (by assumption) ⟨rfl, ⟨_, rfl, a1, a2⟩, ⟨_, rfl, b1, b2⟩, ⟨_, rfl, s1, s2⟩, trivial⟩ (by simp) ?_
  intro u5 w5 hu_ hRw5 hOw5
  simp only [merge, inR, List.any_cons, List.any_nil, Nat.reduceLeDiff, Nat.reduceAdd, decide_true, decide_false, Bool.and_true, Bool.and_false, Bool.true_and, Bool.false_and, Bool.or_false, Bool.or_true, Bool.false_or, Bool.true_or, Bool.false_eq_true, if_true, if_false, Nat.zero_le]
  obtain ⟨⟨x2, e2, c1, c2⟩, ⟨x3, e3, d1, d2⟩, ⟨x4, e4, f1, f2⟩, ⟨x5, e5, g1, g2⟩, -⟩ := hu_
  rw [e2, e3, e4, e5]
  clear ha hb' hs e2 e3 e4 e5
  go_wp2
  refine bodyPost_ret (results_tmp4 rfl _ _ _) rfl ?_
  exact ⟨⟨x2, x3, x4, x5, rfl, by omega, by omega, by omega, by omega, by omega, by omega, by omega, by omega⟩, (Only.bel hB (((hOw2.trans hOw3).trans hOw4).trans hOw5) hr)⟩
end Go.Proofs.Ytaidmimahakeeaa
