/- slices.Grow and slices.Concat at points. -/
import Derived.Test.YtdpokkegkedlfaaSrt
import Derived.Lib.AppendZeros
set_option maxRecDepth 100000
namespace Go.Proofs.Ytdpokkegkedlfaa
open Go.RowKit
theorem grow_x {w : World} {n : Nat} (h0 : 0 < n) (hn : n ≤ 100) :
    Calls Try.prog 113 #[.slice none 0 0, .int .i64 (n : Int)] w fun e w' => ∃ u, e = .returned u ∧ w'.ownsRow w.heap.size 74 2 u 0 [] ∧ Bel w w' := by
  obtain ⟨iP, hiP, hzP, hsP, hbP⟩ := info_parts info_pt
  have hr : ∀ ty, (Builtin.append_ #[65, 3] ty #[.slice none 0 0, .int .i64 (n : Int)]).run Try.prog w = _ := fun ty => Lib.run_append_nil_zeros w 65 3 ty 74 iP (.agg #[.int .i64 0, .int .i64 0]) .i64 .i64 Try.underlying65 Try.underlying3 hiP hzP n h0 (by omega) (by omega) (by rw [hbP]; omega)
  have hw1 : IntKind.i64.wrap (n : Int) = n := by rw [IntKind.wrap_i64]; omega
  have R := Lib.hid hr
  clear hr
  go_enter Try.func113, Try.ntmps113
  go_wp2_with (at_builtin; refine Lib.wpList_append_run _ rfl _ _ 65 3 rfl _ _ rfl rfl _ _ (R.out _) ?_)
  go_ret
  have hge := grownCap_ge w n 0 74
  refine ⟨_, rfl, ⟨rfl, .inr ⟨w.heap.size, _, _, rfl, Nat.le_refl _, heap_alloc_new w _, Nat.zero_le _, grownCap_le_maxLen w n 0 _ (by unfold maxLen; omega), ?_, rfl⟩⟩, ((Bel.refl w).alloc _).drew⟩
  rw [Array.size_append, size_zeroCells, size_zeroCells]
  show n * 2 + (grownCap w n 0 74 - n) * 2 = grownCap w n 0 74 * 2
  omega
theorem bel_any {w w' : World} (hb : Bel w w') {a : Addr} {u : Value} (h : w.cell? a = some u) : w'.cell? a = some u := by
  have hlt : a.block < w.heap.size := by
    rcases Nat.lt_or_ge a.block w.heap.size with h' | h'
    · exact h'
    · simp [World.cell?, Array.getElem?_eq_none h'] at h
  rw [World.cell?_of_block (hb.block _ hlt)]; exact h
theorem concat_x {w : World} {b : Nat} {ad1 ad2 : Addr} {n1 n2 c1 c2 : Nat} {xs1 xs2 : List Value} (h1 : w.cell? ⟨b, 0, none⟩ = some (.slice (some ad1) n1 c1)) (h2 : w.cell? ⟨b, 1, none⟩ = some (.slice (some ad2) n2 c2)) (hl1 : xs1.length = n1 * 2) (hl2 : xs2.length = n2 * 2)
    (hc1 : ∀ j u, xs1[j]? = some u → w.cell? (ad1.add j) = some u) (hc2 : ∀ j u, xs2[j]? = some u → w.cell? (ad2.add j) = some u) (ho1 : ∀ u ∈ xs1, u.oneCell' = true) (ho2 : ∀ u ∈ xs2, u.oneCell' = true) (h0 : 0 < n1 + n2) (hn : n1 + n2 ≤ 100) :
    Calls Try.prog 98 #[.slice (some ⟨b, 0, none⟩) 2 2] w fun e w' => ∃ u, e = .returned u ∧ w'.ownsRow w.heap.size 74 2 u (n1 + n2) (xs1 ++ xs2) ∧ Bel w w' := by
  obtain ⟨iP, hiP, hzP, hsP, hbP⟩ := info_parts info_pt
  have hw1 : IntKind.i64.wrap (n1 : Int) = (n1 : Int) := by rw [IntKind.wrap_i64]; omega
  have hw2 : IntKind.i64.wrap ((n1 : Int) + (n2 : Int)) = (n1 : Int) + (n2 : Int) := by rw [IntKind.wrap_i64]; omega
  have hp0 : ¬ ((n1 : Int) + (n2 : Int) < 0) := by omega
  have hp1 : ¬ ((n1 : Int) < 0) := by omega
  have G : Hid (∀ w : World, Calls Try.prog 113 #[.slice none 0 0, .int .i64 ((n1 : Int) + (n2 : Int))] w fun e w' => ∃ u, e = .returned u ∧ w'.ownsRow w.heap.size 74 2 u 0 [] ∧ Bel w w') := Lib.hid fun w => by
    have h := grow_x (w := w) h0 hn
    rwa [show ((n1 + n2 : Nat) : Int) = (n1 : Int) + (n2 : Int) by omega] at h
  have H1 := Lib.hid h1
  have H2 := Lib.hid h2
  have C1 := Lib.hid hc1
  have C2 := Lib.hid hc2
  have N := Lib.hid (show 0 < n1 + n2 ∧ n1 + n2 ≤ 100 from ⟨h0, hn⟩)
  clear hc1 hc2 h0 hn
  go_enter Try.func98, Try.ntmps98
  go_wp2
  refine wp_loop_rounds 3 ?_
  rw [rounds_succ]
  go_wp2
  rw [rounds_succ]
  go_wp2
  rw [rounds_succ]
  go_wp2_with (go_at_call 113; refine (G.out _).mono ?_; rintro e w1 ⟨u1, rfl, hO, hB⟩; have g1 := bel_any hB h1; have g2 := bel_any hB h2; clear h1 h2)
  refine wp_loop_rounds 3 ?_
  rw [rounds_succ]
  go_wp2_with (at_builtin; refine wpList_append_ownB rfl _ _ 65 rfl w.heap.size 74 iP (.agg #[.int .i64 0, .int .i64 0]) 2 16 Try.underlying65 hiP hzP hsP hbP rfl (by decide) _ 0 [] rfl hO ad1 n1 c1 xs1 rfl hl1 (fun j u hj => bel_any hB (C1.out j u hj)) ho1 (by have := N.out.2; unfold maxLen; omega) (by have := N.out.2; omega) hB.size ?_; intro u2 w2 hO2 hgr2 hbk2; have hB2 : Bel w w2 := bel_step hB hgr2 (fun b e => (hO.lt b e).1); clear g1 g2; have g2 := bel_any hB2 H2.out)
  rw [rounds_succ]
  go_wp2_with (at_builtin; refine wpList_append_ownB rfl _ _ 65 rfl w.heap.size 74 iP (.agg #[.int .i64 0, .int .i64 0]) 2 16 Try.underlying65 hiP hzP hsP hbP rfl (by decide) _ (0 + n1) ([] ++ xs1) rfl hO2 ad2 n2 c2 xs2 rfl hl2 (fun j u hj => bel_any hB2 (C2.out j u hj)) ho2 (by have := N.out.2; unfold maxLen; omega) (by have := N.out.2; omega) hB2.size ?_; intro u3 w3 hO3 hgr3 hbk3)
  rw [rounds_succ]
  go_wp2
  go_ret
  rw [Nat.zero_add, List.nil_append] at hO3
  exact ⟨u3, rfl, hO3, bel_step hB2 hgr3 (fun b e => (hO2.lt b e).1)⟩
theorem rev_x {w : World} {base : Nat} {u : Value} {l : List Pt} (ho : w.ownsRow base 74 2 u l.length (ptCells l)) (hlen : l.length ≤ 100) :
    Calls Try.prog 97 #[u] w fun e w' => e = .returned (.tuple #[]) ∧ w'.ownsRow base 74 2 u l.reverse.length (ptCells l.reverse) ∧ w.grownBy w' (blk u) := by
  rcases ho.2 with ⟨rfl, hz⟩ | ⟨g, cap, cur, rfl, hbg, hgg, hnc, hcm, hcs, htake⟩
  · have hl : l = [] := List.eq_nil_of_length_eq_zero hz
    subst hl
    refine (@AnyQ.slices_Reverse_empty _ _ revP none 0 w).mono ?_
    rintro e w' ⟨rfl, rfl⟩
    exact ⟨rfl, ho, ⟨rfl, rfl, rfl, Nat.le_refl _, fun _ _ _ => rfl⟩⟩
  · have hn' : l.length ≤ cap := hnc
    have hH := holds_pt hgg hn' hcs htake
    have hm : maxLen = 9223372036854775807 := by decide
    have hr := AnyQ.slices_Reverse revP 2 Try.isAgg74 Try.sizeOf74 encP (fun _ => rfl) (fun x v hv => by simp [encP] at hv; rcases hv with rfl | rfl <;> rfl) g 0 cap l.toArray w hH (by simp; omega)
    refine Calls.mono (R := _) hr ?_
    rintro e w' ⟨rfl, n, rfl⟩
    rw [List.reverse_toArray]
    have e0 : Go.Sort.putRowK encP 2 (Go.Sort.ahead w n) g 0 l.reverse.toArray = Go.Sort.grow (Go.Sort.putRowK encP 2 (Go.Sort.ahead w n) g 0 l.reverse.toArray) #[] := by rw [Go.Sort.grow_empty]
    rw [e0]
    exact ⟨rfl, owns_putK (by simp) hbg hgg hn' hcm hcs, grown_putK _⟩
end Go.Proofs.Ytdpokkegkedlfaa
