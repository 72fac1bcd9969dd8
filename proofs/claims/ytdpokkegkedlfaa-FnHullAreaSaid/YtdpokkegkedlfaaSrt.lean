/- slices.SortFunc at points, by its contract; its closure's walk. -/
import Derived.Test.YtdpokkegkedlfaaCmp
import Derived.StillTailTactics
import Derived.LoopN
import Derived.Shelf.SlSortCmp.NoneTotal
import Derived.Shelf.SlicesQ.Reverse
set_option maxRecDepth 100000
namespace Go.Proofs.Ytdpokkegkedlfaa
open Go.RowKit
def cpI (x y : Int) : Int := if x < y then -1 else if y < x then 1 else 0
theorem nan_x (x : Int) (w : World) : Calls Try.prog 112 #[.int .i64 x] w fun e w' => e = .returned (.bool false) ∧ w' = w := by
  go_enter Try.func112, Try.ntmps112
  go_wp2
  go_ret
  exact ⟨rfl, rfl⟩
theorem cmp_x (x y : Int) (w : World) : Calls Try.prog 94 #[.int .i64 x, .int .i64 y] w fun e w' => e = .returned (.int .i64 (cpI x y)) ∧ w' = w := by
  go_enter Try.func94, Try.ntmps94
  go_wp2_with (go_at_call 112; refine (nan_x _ _).mono ?_; rintro e w' ⟨rfl, rfl⟩)
  all_goals go_ret
  all_goals (refine ⟨congrArg (fun z => Ending.returned (Value.int .i64 z)) (show (_ : Int) = cpI x y from ?_), rfl⟩; unfold cpI; split <;> (try split) <;> omega)
def orZ (x y : Int) : Int := if x = 0 then y else x
theorem or_x (x y : Int) (w : World) (b : Nat) (h0 : w.cell? ⟨b, 0, none⟩ = some (.int .i64 x)) (h1 : w.cell? ⟨b, 1, none⟩ = some (.int .i64 y)) : Calls Try.prog 93 #[.slice (some ⟨b, 0, none⟩) 2 2] w fun e w' => e = .returned (.int .i64 (orZ x y)) ∧ w' = w := by
  obtain ⟨z, hz⟩ : ∃ z, orZ x y = z := ⟨_, rfl⟩
  rw [hz]
  unfold orZ at hz
  by_cases hx : x = 0
  · rw [if_pos hx] at hz
    subst hz hx
    by_cases hy : y = 0
    · subst hy
      go_enter Try.func93, Try.ntmps93
      go_wp2
      refine wp_loop_rounds 3 ?_
      rw [rounds_succ]
      go_wp2
      rw [rounds_succ]
      go_wp2
      rw [rounds_succ]
      go_wp2
      go_ret
      exact ⟨rfl, rfl⟩
    · have hb : (y != 0) = true := by simp [hy]
      go_enter Try.func93, Try.ntmps93
      go_wp2
      refine wp_loop_rounds 3 ?_
      rw [rounds_succ]
      go_wp2
      rw [rounds_succ]
      go_wp2
      go_ret
      exact ⟨rfl, rfl⟩
  · rw [if_neg hx] at hz
    subst hz
    have hb : (x != 0) = true := by simp [hx]
    go_enter Try.func93, Try.ntmps93
    go_wp2
    refine wp_loop_rounds 3 ?_
    rw [rounds_succ]
    go_wp2
    go_ret
    exact ⟨rfl, rfl⟩
def cmpP (p q : Pt) : Int := orZ (cpI p.1 q.1) (cpI p.2 q.2)
theorem clo_x (p q : Pt) (W : World) : Calls Try.prog 92 #[.agg #[.int .i64 p.1, .int .i64 p.2], .agg #[.int .i64 q.1, .int .i64 q.2]] W fun e w' => e = .returned (.int .i64 (cmpP p q)) ∧ ∃ n os', w' = Go.Sort.grow (W.drewN n) os' := by
  have hm : Try.prog.follows .mixedOrders = true := by kernel_rfl
  have hC := fun (x y : Int) (w : World) => Lib.hid (cmp_x x y w)
  obtain ⟨W3, hW3⟩ : ∃ W3, ((W.alloc (.cells #[.int .i64 p.1, .int .i64 p.2] 74)).alloc (.cells #[.int .i64 q.1, .int .i64 q.2] 74)).drew = W3 := ⟨_, rfl⟩
  have z1 : (W.alloc (.cells #[.int .i64 p.1, .int .i64 p.2] 74)).heap.size = W.heap.size + 1 := Array.size_push ..
  have b0 : W3.heap[W.heap.size]? = some (.cells #[.int .i64 p.1, .int .i64 p.2] 74 (0, 0)) := by
    rw [← hW3]
    exact (((Bel.refl (W.alloc (.cells #[.int .i64 p.1, .int .i64 p.2] 74))).alloc _).block W.heap.size (by rw [z1]; omega)).trans (heap_alloc_new W _)
  have b1 : W3.heap[W.heap.size + 1]? = some (.cells #[.int .i64 q.1, .int .i64 q.2] 74 (0, 0)) := by
    rw [← hW3, ← z1]
    exact heap_alloc_new (W.alloc _) _
  have d0 : W3.cell? ⟨W.heap.size, 0, none⟩ = some (.int .i64 p.1) := by rw [cell_of_row W3 _ 0 _ _ _ b0]; rfl
  have d1 : W3.cell? ⟨W.heap.size, 1, none⟩ = some (.int .i64 p.2) := by rw [cell_of_row W3 _ 1 _ _ _ b0]; rfl
  have d2 : W3.cell? ⟨W.heap.size + 1, 0, none⟩ = some (.int .i64 q.1) := by rw [cell_of_row W3 _ 0 _ _ _ b1]; rfl
  have d3 : W3.cell? ⟨W.heap.size + 1, 1, none⟩ = some (.int .i64 q.2) := by rw [cell_of_row W3 _ 1 _ _ _ b1]; rfl
  have b2 : (W3.alloc (.cells #[.int .i64 (cpI p.1 q.1), .int .i64 (cpI p.2 q.2)] 3)).heap[W3.heap.size]? = some (.cells #[.int .i64 (cpI p.1 q.1), .int .i64 (cpI p.2 q.2)] 3 (0, 0)) := heap_alloc_new W3 _
  have e0 := cell_of_row _ _ 0 _ _ _ b2
  have e1 := cell_of_row _ _ 1 _ _ _ b2
  have hgr : ∃ os, W3 = Go.Sort.grow (W.drewN 1) os := ⟨_, by rw [← hW3, Go.Sort.alloc_eq_grow, Go.Sort.alloc_eq_grow, Go.Sort.grow_grow]; rfl⟩
  go_enter Try.func92, Try.ntmps92
  go_wp2_with (fail)
  refine wp_region_still_tail 10 hm (by kernel_rfl) ?_
  change wpStill Try.prog _ (World.drew _) (fun a' => wpList _ _ _ _ _ (World.drew _)) _ _
  rw [hW3]
  simp only [List.take_succ_cons, List.take_zero, List.drop_succ_cons, List.drop_zero]
  clear hW3
  repeat still_step
  still_call (cmp_x _ _ _)
  repeat still_step
  still_call (cmp_x _ _ _)
  refine wpStill_nil ?_
  go_wp2_with (go_at_call 93; refine (or_x _ _ _ _ e0 e1).mono ?_; rintro e w' ⟨rfl, rfl⟩)
  go_ret
  obtain ⟨os, rfl⟩ := hgr
  exact ⟨rfl, 1, _, by rw [Go.Sort.alloc_eq_grow, Go.Sort.grow_grow]⟩
def srtP_ren : Go.Shelf.Ren := ⟨fun | 6 => 91 | 14 => 110 | 15 => 111 | 20 => 117 | 21 => 118 | 22 => 119 | 23 => 120 | 24 => 121 | 25 => 122 | 26 => 123 | 27 => 124 | 28 => 125 | 29 => 126 | 46 => 127 | 47 => 128 | 48 => 129 | 49 => 130 | 50 => 131 | 57 => 132 | n => n, fun | 0 => 0 | 3 => 3 | 4 => 4 | 5 => 5 | 9 => 9 | 22 => 65 | 24 => 74 | 25 => 103 | 39 => 121 | 45 => 126 | 46 => 127 | 50 => 131 | 53 => 134 | 55 => 136 | 66 => 137 | 70 => 141 | 76 => 143 | 77 => 93 | n => n, fun | n => n⟩
theorem srtP : Go.Proofs.SlLaysF0.n6 Try.prog srtP_ren := {
  mixed := by kernel_rfl
  f6 := ⟨Try.f91.name, by decide, Try.func91.trans (congrArg some (by kernel_rfl))⟩
  f14 := ⟨Try.f110.name, by decide, Try.func110.trans (congrArg some (by kernel_rfl))⟩
  f15 := Try.func111.trans (congrArg some (by kernel_rfl))
  f20 := ⟨Try.f117.name, by decide, Try.func117.trans (congrArg some (by kernel_rfl))⟩
  f21 := ⟨Try.f118.name, by decide, Try.func118.trans (congrArg some (by kernel_rfl))⟩
  f22 := ⟨Try.f119.name, by decide, Try.func119.trans (congrArg some (by kernel_rfl))⟩
  f23 := ⟨Try.f120.name, by decide, Try.func120.trans (congrArg some (by kernel_rfl))⟩
  f24 := ⟨Try.f121.name, by decide, Try.func121.trans (congrArg some (by kernel_rfl))⟩
  f25 := ⟨Try.f122.name, by decide, Try.func122.trans (congrArg some (by kernel_rfl))⟩
  f26 := ⟨Try.f123.name, by decide, Try.func123.trans (congrArg some (by kernel_rfl))⟩
  f27 := ⟨Try.f124.name, by decide, Try.func124.trans (congrArg some (by kernel_rfl))⟩
  f28 := Try.func125.trans (congrArg some (by kernel_rfl))
  f29 := Try.func126.trans (congrArg some (by kernel_rfl))
  f46 := ⟨Try.f127.name, by decide, Try.func127.trans (congrArg some (by kernel_rfl))⟩
  f47 := Try.func128.trans (congrArg some (by kernel_rfl))
  f48 := Try.func129.trans (congrArg some (by kernel_rfl))
  f49 := ⟨Try.f130.name, by decide, Try.func130.trans (congrArg some (by kernel_rfl))⟩
  f50 := ⟨Try.f131.name, by decide, Try.func131.trans (congrArg some (by kernel_rfl))⟩
  f57 := ⟨Try.f132.name, by decide, Try.func132.trans (congrArg some (by kernel_rfl))⟩
  t0 := Try.underlying0
  a0 := Try.isAgg0
  z0 := Try.sizeOf0
  v0 := Try.zeroValue0
  t3 := Try.underlying3
  a3 := Try.isAgg3
  z3 := Try.sizeOf3
  v3 := Try.zeroValue3
  t4 := Try.underlying4
  a4 := Try.isAgg4
  z4 := Try.sizeOf4
  v4 := Try.zeroValue4
  t5 := Try.underlying5
  a5 := Try.isAgg5
  z5 := Try.sizeOf5
  v5 := Try.zeroValue5
  t9 := Try.underlying9
  a9 := Try.isAgg9
  z9 := Try.sizeOf9
  v9 := Try.zeroValue9
  t22 := Try.underlying65
  a22 := Try.isAgg65
  z22 := Try.sizeOf65
  v22 := Try.zeroValue65
  t25 := Try.underlying103
  a25 := Try.isAgg103
  z25 := Try.sizeOf103
  v25 := Try.zeroValue103
  t39 := Try.underlying121
  a39 := Try.isAgg121
  z39 := Try.sizeOf121
  v39 := Try.zeroValue121
  t45 := Try.underlying126
  a45 := Try.isAgg126
  z45 := Try.sizeOf126
  v45 := Try.zeroValue126
  t46 := Try.underlying127
  a46 := Try.isAgg127
  z46 := Try.sizeOf127
  v46 := Try.zeroValue127
  t50 := Try.underlying131
  a50 := Try.isAgg131
  z50 := Try.sizeOf131
  v50 := Try.zeroValue131
  t53 := Try.underlying134
  a53 := Try.isAgg134
  z53 := Try.sizeOf134
  v53 := Try.zeroValue134
  t55 := Try.underlying136
  a55 := Try.isAgg136
  z55 := Try.sizeOf136
  v55 := Try.zeroValue136
  t66 := Try.underlying137
  a66 := Try.isAgg137
  z66 := Try.sizeOf137
  v66 := Try.zeroValue137
  t70 := Try.underlying141
  a70 := Try.isAgg141
  z70 := Try.sizeOf141
  v70 := Try.zeroValue141
  t76 := Try.underlying143
  a76 := Try.isAgg143
  z76 := Try.sizeOf143
  v76 := Try.zeroValue143
  t77 := Try.underlying93
  a77 := Try.isAgg93
  z77 := Try.sizeOf93
  v77 := Try.zeroValue93 }
theorem cmpP_lt (p q : Pt) : cmpP p q < 0 ↔ (p.1 < q.1 ∨ (p.1 = q.1 ∧ p.2 < q.2)) := by
  unfold cmpP orZ cpI
  by_cases a : p.1 < q.1
  · simp [a]
  · by_cases b : q.1 < p.1
    · simp [a, b]; omega
    · by_cases c : p.2 < q.2
      · simp [a, b, c]; omega
      · by_cases d : q.2 < p.2
        · simp [a, b, c, d]
        · simp [a, b, c, d]
theorem swoP : Go.Sort.SWO (Go.Proofs.ltOf cmpP) where
  irrefl x := by unfold Go.Proofs.ltOf; rw [decide_eq_false_iff_not, cmpP_lt]; omega
  trans x y z h1 h2 := by unfold Go.Proofs.ltOf at *; rw [decide_eq_true_eq, cmpP_lt] at *; omega
  ntrans x y z h1 h2 := by unfold Go.Proofs.ltOf at *; rw [decide_eq_false_iff_not, cmpP_lt] at *; omega
theorem sort_x {w : World} {base : Nat} {u : Value} {l : List Pt} (ho : w.ownsRow base 74 2 u l.length (ptCells l)) (hlen : l.length < 4611686018427387904) :
    Calls Try.prog 91 #[u, .func (.func 92) #[] #[]] w fun e w' => e = .returned (.tuple #[]) ∧ ∃ m : List Pt, m.length = l.length ∧ m.Perm l ∧ (∀ i j, i < j → j < m.length → ¬ (m[j]!.1 < m[i]!.1 ∨ (m[j]!.1 = m[i]!.1 ∧ m[j]!.2 < m[i]!.2))) ∧ w'.ownsRow base 74 2 u m.length (ptCells m) ∧ w.grownBy w' (blk u) := by
  rcases ho.2 with ⟨rfl, hz⟩ | ⟨g, cap, cur, rfl, hbg, hgg, hnc, hcm, hcs, htake⟩
  · have hl : l = [] := List.eq_nil_of_length_eq_zero hz
    subst hl
    refine (AnyF.slices_SortFunc_none srtP none 0 _ w).mono ?_
    rintro e w' ⟨rfl, rfl⟩
    exact ⟨rfl, [], rfl, .refl _, fun i j _ h => by simp at h, ho, ⟨rfl, rfl, rfl, Nat.le_refl _, fun _ _ _ => rfl⟩⟩
  · have hH := holds_pt hgg hnc hcs htake
    have hm : maxLen = 9223372036854775807 := by decide
    have eg : ∀ args w, (callFunc 92 args).run Try.prog w = .ok (.enter 92 args) w := enters_of Try.func92 (by kernel_rfl) rfl
    have hr := AnyQ.slices_SortFunc srtP 2 Try.isAgg74 Try.sizeOf74 encP (fun _ => rfl) (fun x v hv => by simp [encP] at hv; rcases hv with rfl | rfl <;> rfl) cmpP swoP 92 #[] g 0 cap l.toArray w eg (fun m os dk _ x y => clo_x x y _) hH (heap_lt hgg) (by simpa using hlen)
    refine Calls.mono (R := _) hr ?_
    rintro e w' ⟨rfl, d', n, os, ⟨hs, _, hp⟩, hso, rfl⟩
    have hs' : d'.size = l.length := by simpa using hs
    have e1 : d'.toList.toArray = d' := rfl
    have hl' : d'.toList.length = l.length := by simpa using hs
    refine ⟨rfl, d'.toList, hl', ?_, fun i j hij hj => ?_, ?_, ?_⟩
    · have a1 : (d'.extract 0 l.toArray.size).toList = d'.toList := by simp [← hs']
      have a2 : (l.toArray.extract 0 l.toArray.size).toList = l := by simp
      rw [a1, a2] at hp
      exact hp
    · have h := hso i j (Nat.zero_le _) hij (by simp; omega)
      unfold Go.Proofs.ltOf at h
      rw [decide_eq_false_iff_not, cmpP_lt] at h
      rw [arr_get, arr_get]
      exact h
    · have h := owns_putK (n := n) (os := os) (m := d'.toList) hl' hbg hgg hnc hcm hcs
      rw [e1] at h
      exact h
    · have h := grown_putK (w := w) (g := g) (n := n) (os := os) d'.toList
      rw [e1] at h
      exact h
def revP_ren : Go.Shelf.Ren := ⟨fun | 35 => 97 | n => n, fun | 22 => 65 | 23 => 74 | 3 => 3 | 4 => 4 | 0 => 0 | n => n, fun | n => n⟩
theorem revP : Go.Proofs.SlLaysE0.n35 Try.prog revP_ren := {
  mixed := by kernel_rfl
  f35 := ⟨Try.f97.name, by decide, Try.func97.trans (congrArg some (by kernel_rfl))⟩
  t0 := Try.underlying0
  a0 := Try.isAgg0
  z0 := Try.sizeOf0
  v0 := Try.zeroValue0
  t3 := Try.underlying3
  a3 := Try.isAgg3
  z3 := Try.sizeOf3
  v3 := Try.zeroValue3
  t4 := Try.underlying4
  a4 := Try.isAgg4
  z4 := Try.sizeOf4
  v4 := Try.zeroValue4
  t22 := Try.underlying65
  a22 := Try.isAgg65
  z22 := Try.sizeOf65
  v22 := Try.zeroValue65 }
def s_slices_Reverse_Simpl_Point_impl_Point (l : List Pt) : SgX := ⟨True, [], (fun _ => True), (fun _ => []), (fun _ => .row 74 (.pts l.reverse))⟩
def g_slices_Reverse_Simpl_Point_impl_Point : Bx → List AV → Option SgX
  | .row e (.pts l), [] => if e == 74 then some (s_slices_Reverse_Simpl_Point_impl_Point l) else none
  | _, _ => none
theorem F_slices_Reverse_Simpl_Point_impl_Point : FunX 97 g_slices_Reverse_Simpl_Point_impl_Point := by
  intro bx avs sg hg hn L0 v0 args w hL hv0 hbx hA
  unfold g_slices_Reverse_Simpl_Point_impl_Point at hg
  split at hg
  · rename_i e l
    split at hg
    · rename_i he
      obtain rfl := beq_iff_eq.1 he
      injection hg with hg; subst hg
      obtain rfl : args = [] := by cases args with
        | nil => rfl
        | cons _ _ => exact hA.elim
      refine ⟨callFunc_enter Try.func97 (by kernel_rfl) (by kernel_rfl) _ w, ?_⟩
      obtain ⟨xs, hown, hC⟩ := hbx
      have hC' : xs = ptCells l := hC
      subst hC'
      rcases hown.2 with ⟨rfl, hz⟩ | ⟨g, cap, cur, rfl, hbg, hgg, hnc, hcm, hcs, htake⟩
      · have hl0 : l.length = 0 := hz
        have hl : l = [] := List.eq_nil_of_length_eq_zero hl0
        subst hl
        refine (@AnyQ.slices_Reverse_empty _ _ revP none 0 w).mono ?_
        rintro e w' ⟨rfl, rfl⟩
        exact ⟨_, [], rfl, rfl, trivial, ⟨#[], rfl, trivial⟩, ⟨_, hown, rfl⟩, rfl, ⟨rfl, rfl, rfl, Nat.le_refl _, fun _ _ _ => rfl⟩⟩
      · have hn' : l.length ≤ cap := hnc
        have hH := holds_pt hgg hn' hcs htake
        have hm : maxLen = 9223372036854775807 := by decide
        have hr := AnyQ.slices_Reverse revP 2 Try.isAgg74 Try.sizeOf74 encP (fun _ => rfl) (fun x v hv => by simp [encP] at hv; rcases hv with rfl | rfl <;> rfl) g 0 cap l.toArray w hH (by simp; omega)
        refine Calls.mono (R := _) hr ?_
        rintro e w' ⟨rfl, n, rfl⟩
        rw [List.reverse_toArray]
        have e0 : Go.Sort.putRowK encP 2 (Go.Sort.ahead w n) g 0 l.reverse.toArray = Go.Sort.grow (Go.Sort.putRowK encP 2 (Go.Sort.ahead w n) g 0 l.reverse.toArray) #[] := by rw [Go.Sort.grow_empty]
        rw [e0]
        exact ⟨_, [], rfl, rfl, trivial, ⟨#[], rfl, trivial⟩, ⟨_, owns_putK (by simp) (Nat.zero_le _) hgg hn' hcm hcs, rfl⟩, rfl, grown_putK _⟩
    · cases hg
  · cases hg
end Go.Proofs.Ytdpokkegkedlfaa
