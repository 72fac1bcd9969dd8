/- The sine of the specification: a table of 91 numbers in memory of the call's own. -/
import Derived.Test.YtejiomhoflnboaaDoorAxO
import Derived.Test.YtejiomhoflnboaaDoorAxV
import Derived.Deep.WholeRow
import Derived.Deep.Cut
namespace Go.Proofs.YtejiomhoflnboaaDoor
open Go.RowKit
set_option maxRecDepth 100000
noncomputable def pnew {α : Type} : Sem α → Option (Obj × (Nat → Sem α))
  | .new o k => some (o, k)
  | .program k => pnew (k Tryd.prog)
  | _ => none
theorem pnew_ok {α : Type} {w : World} : ∀ (s : Sem α) (o : Obj) (k : Nat → Sem α), pnew s = some (o, k) → s.run Tryd.prog w = (k w.heap.size).run Tryd.prog (w.alloc o) := by
  intro s
  induction s with
  | new o k ih => intro o' k' h; simp only [pnew, Option.some.injEq, Prod.mk.injEq] at h; obtain ⟨rfl, rfl⟩ := h; rfl
  | program k ih => intro o' k' h; simp only [pnew] at h; exact ih _ o' k' h
  | _ => intro o' k' h; simp only [pnew] at h; cases h
theorem pnv {α : Type} {s : Sem α} {o : Obj} {f : Nat → α} (h : ∀ g, (match pnew s with | some (o', k) => (match pval (fun _ => none) (k g) with | some v => some (o', v) | none => none) | none => none) = some (o, f g)) (w : World) : s.run Tryd.prog w = .ok (f w.heap.size) (w.alloc o) := by
  have h := h w.heap.size
  split at h
  · rename_i o' k hp
    split at h
    · rename_i v hv
      simp only [Option.some.injEq, Prod.mk.injEq] at h
      obtain ⟨rfl, rfl⟩ := h
      rw [pnew_ok s o' k hp, pval_ok (fun _ _ h => by cases h) _ _ hv]
    · cases h
  · cases h
def tabV : Array Value := (sinT.map (Value.int .i64)).toArray
def zerV : Array Value := (sinT.map fun _ => Value.int .i64 0).toArray
def tabO : Obj := .cells tabV 96 (0, 0)
theorem st_run (ρ : Operand → Value) (x y : Operand) (dst : Option Tmp) (ty : TypeId) (pos : String) (af : Array Edge) (w : World) (hx : ρ x = .pointer (some ⟨w.heap.size, 0, none⟩)) (hy : ρ y = .agg tabV) :
    (execOp ρ ⟨dst, .store 96 x y, ty, pos, af, none⟩).run Tryd.prog (w.alloc (.cells zerV 96 (0, 0))) = .ok .skip (w.alloc tabO) := by
  show ((Instr.storeAt 96 (ρ x) (ρ y)) >>= fun _ => (Pure.pure Next.skip : Sem Next)).run Tryd.prog _ = _
  rw [hx, hy]
  have := run_storeAt_new (P := Tryd.prog) w 96 zerV tabV (by kernel_rfl) (by kernel_rfl) (by kernel_rfl)
  rw [Sem.run_bind, this]
  rfl
theorem res_cell {fn : Func} {a : Nat} {t : TypeId} (h : fn.results.toList = [.cell a t]) {tmps : Array Value} {w : World} {v : Value} {ad : Addr} (ha : tmps.getD a undef = .pointer (some ad)) (hl : (loadVar t ad).run Tryd.prog w = .ok v w) :
    (results fn tmps).run Tryd.prog w = .ok v w := by
  have h' : fn.results = #[.cell a t] := by apply Array.ext'; simpa using h
  have e : (resM tmps (.cell a t)).run Tryd.prog w = .ok v w := by
    simp only [resM, ha]
    simp only [asAddr, Sem.run_bind, Sem.run_pure, Result.andThen_ok]
    exact hl
  rw [results_eq, h']
  generalize resM tmps = f at *
  simp [e]
theorem tab_x (w : World) : Calls Tryd.prog 90 #[] w fun e w' => e = .returned (.agg tabV) ∧ w' = w.alloc tabO := by
  go_enter Tryd.func90, Tryd.ntmps90
  refine wp_seq (wp_region_list (wpList_step fun K hK => ?_))
  rw [if_pos (by simp [Region.wanted])]
  unfold Oper.wp
  rw [pnv (o := .cells zerV 96 (0, 0)) (f := fun g => .value (.pointer (some ⟨g, 0, none⟩))) (fun g => by kernel_rfl)]
  refine hK _ _ ?_
  show Code.wp _ _ _ _ _
  refine wp_seq (wp_region_list (wpList_step fun K hK => ?_))
  rw [if_pos (by simp [Region.wanted])]
  unfold Oper.wp
  rw [pval_ok (ld := fun _ => none) (fun _ _ h => by cases h) _ (.value (.agg tabV)) (by kernel_rfl)]
  refine hK _ _ (wpList_step fun K hK => ?_)
  rw [if_pos (by simp [Region.wanted])]
  unfold Oper.wp
  rw [st_run _ _ _ _ _ _ _ _ rfl rfl]
  exact hK _ _ (wp_ret ⟨rfl, .agg tabV, res_cell rfl rfl (run_loadVar_new (P := Tryd.prog) w 96 tabV 91 3 (by kernel_rfl) (by kernel_rfl)), rfl, rfl⟩)
theorem sdeg_x (d : Int) (w : World) : Calls Tryd.prog 89 #[.int .i64 d] w fun e w' => e = .returned (.int .i64 (d % 360)) ∧ w' = w := by
  have h1 : -360 < d.tmod 360 ∧ d.tmod 360 < 360 := by
    have := Int.tmod_lt_of_pos d (show (0:Int) < 360 by omega)
    have := Int.lt_tmod_of_pos d (show (0:Int) < 360 by omega)
    omega
  have e : d.tmod 360 % 360 = d % 360 := by
    rcases Int.le_total 0 d with h | h
    · have := Int.tmod_eq_emod_of_nonneg (b := 360) h; omega
    · obtain ⟨c, rfl⟩ : ∃ c, d = -c := ⟨-d, by omega⟩
      have e1 : (-c).tmod 360 = -(c % 360) := by rw [Int.neg_tmod, Int.tmod_eq_emod_of_nonneg (by omega)]
      omega
  by_cases hn : d.tmod 360 < 0
  · have W1 : IntKind.i64.wrap (d.tmod 360 + 360) = d % 360 := by rw [IntWalk.i64_in _ (by omega)]; omega
    go_enter Tryd.func89, Tryd.ntmps89
    go_wp2
    go_ret
    exact ⟨rfl, rfl⟩
  · have W1 : d.tmod 360 = d % 360 := by omega
    go_enter Tryd.func89, Tryd.ntmps89
    go_wp2
    go_ret
    exact ⟨rfl, rfl⟩
theorem map_at (L : List Int) {i : Nat} (hi : i < L.length) : ((L.map (Value.int .i64)).toArray)[i]? = some (.int .i64 (L.getD i 0)) := by
  simp [List.getD_eq_getElem?_getD, hi]
theorem tab_gen (w : World) (o : Obj) (cs : Array Value) (t : TypeId) (i : Nat) (ho : o = .cells cs t (0, 0)) : ((w.alloc o).alloc o).cell? ⟨w.heap.size + 1, i, none⟩ = cs[i]? := by
  have h := heap_alloc_last (w.alloc o) o
  have e : (w.alloc o).heap.size = w.heap.size + 1 := Array.size_push ..
  rw [e] at h
  exact cell_of_row _ _ i cs t (0, 0) (h.trans (congrArg some ho))
theorem tab_cell (w : World) {i : Nat} (hi : i < 91) : ((w.alloc tabO).alloc tabO).cell? ⟨w.heap.size + 1, i, none⟩ = some (.int .i64 (sinN i)) :=
  (tab_gen w tabO tabV 96 i rfl).trans (map_at sinT hi)
theorem ssine_1 (d : Int) (w : World) (h : d % 360 ≤ 90) : Calls Tryd.prog 82 #[.int .i64 d] w fun e w' => e = .returned (.int .i64 (sinF d)) ∧ Bel w w' := by
  have m0 := Int.emod_nonneg d (show (360 : Int) ≠ 0 by omega)
  have m1 := Int.emod_lt_of_pos d (show (0 : Int) < 360 by omega)
  have hb := sinN_in (k := d % 360) (by omega) (by omega)
  have e : sinF d = sinN (d % 360).toNat := by
    unfold sinF
    rw [if_pos h]
  rw [e]
  clear e
  go_enter Tryd.func82, Tryd.ntmps82
  go_upto_region 2 with (go_at_call 89; refine (sdeg_x d _).mono ?_; rintro e w' ⟨rfl, hw⟩; subst hw)
  rename_i K hK
  refine wp_region_list (wpList_step fun K2 hK2 => ?_)
  rw [if_pos (by simp [Region.wanted])]
  unfold Oper.wp
  rw [pval_ok (ld := fun _ => none) (fun _ _ h => by cases h) _ (.enter 90 #[]) (by kernel_rfl)]
  show Calls Tryd.prog 90 #[] _ _
  refine (tab_x _).mono ?_
  rintro e w2 ⟨rfl, hw2⟩
  subst hw2
  refine hK2 _ _ (wpList_step fun K2 hK2 => ?_)
  rw [if_pos (by simp [Region.wanted])]
  unfold Oper.wp
  rw [pnv (o := .cells zerV 96 (0, 0)) (f := fun g => .value (.pointer (some ⟨g, 0, none⟩))) (fun g => by kernel_rfl)]
  refine hK2 _ _ (wpList_step fun K2 hK2 => ?_)
  rw [if_pos (by simp [Region.wanted])]
  unfold Oper.wp
  rw [st_run _ _ _ _ _ _ _ _ rfl rfl]
  refine hK2 _ _ (hK _ _ ?_)
  have hc := tab_cell w' (i := (d % 360).toNat) (by omega)
  have hbel : Bel w' ((World.alloc w' tabO).alloc tabO) := ((Bel.refl _).alloc _).alloc _
  generalize hW : World.alloc (World.alloc w' tabO) tabO = W at *
  clear hK
  simp only [Act.put]
  go_wp2
  go_ret
  exact ⟨rfl, hbel⟩
theorem ssine_2 (d : Int) (w : World) (h0 : ¬ d % 360 ≤ 90) (h : d % 360 ≤ 180) : Calls Tryd.prog 82 #[.int .i64 d] w fun e w' => e = .returned (.int .i64 (sinF d)) ∧ Bel w w' := by
  have m0 := Int.emod_nonneg d (show (360 : Int) ≠ 0 by omega)
  have m1 := Int.emod_lt_of_pos d (show (0 : Int) < 360 by omega)
  have hb := sinN_in (k := 180 - d % 360) (by omega) (by omega)
  have e : sinF d = sinN (180 - d % 360).toNat := by
    unfold sinF
    rw [if_neg h0, if_pos h]
  rw [e]
  clear e
  go_enter Tryd.func82, Tryd.ntmps82
  go_upto_region 2 with (go_at_call 89; refine (sdeg_x d _).mono ?_; rintro e w' ⟨rfl, hw⟩; subst hw)
  rename_i K hK
  refine wp_region_list (wpList_step fun K2 hK2 => ?_)
  rw [if_pos (by simp [Region.wanted])]
  unfold Oper.wp
  rw [pval_ok (ld := fun _ => none) (fun _ _ h => by cases h) _ (.enter 90 #[]) (by kernel_rfl)]
  show Calls Tryd.prog 90 #[] _ _
  refine (tab_x _).mono ?_
  rintro e w2 ⟨rfl, hw2⟩
  subst hw2
  refine hK2 _ _ (wpList_step fun K2 hK2 => ?_)
  rw [if_pos (by simp [Region.wanted])]
  unfold Oper.wp
  rw [pnv (o := .cells zerV 96 (0, 0)) (f := fun g => .value (.pointer (some ⟨g, 0, none⟩))) (fun g => by kernel_rfl)]
  refine hK2 _ _ (wpList_step fun K2 hK2 => ?_)
  rw [if_pos (by simp [Region.wanted])]
  unfold Oper.wp
  rw [st_run _ _ _ _ _ _ _ _ rfl rfl]
  refine hK2 _ _ (hK _ _ ?_)
  have hc := tab_cell w' (i := (180 - d % 360).toNat) (by omega)
  have hbel : Bel w' ((World.alloc w' tabO).alloc tabO) := ((Bel.refl _).alloc _).alloc _
  generalize hW : World.alloc (World.alloc w' tabO) tabO = W at *
  clear hK
  simp only [Act.put]
  go_wp2
  go_ret
  exact ⟨rfl, hbel⟩
theorem ssine_3 (d : Int) (w : World) (h0 : ¬ d % 360 ≤ 180) (h : d % 360 ≤ 270) : Calls Tryd.prog 82 #[.int .i64 d] w fun e w' => e = .returned (.int .i64 (sinF d)) ∧ Bel w w' := by
  have m0 := Int.emod_nonneg d (show (360 : Int) ≠ 0 by omega)
  have m1 := Int.emod_lt_of_pos d (show (0 : Int) < 360 by omega)
  have hb := sinN_in (k := d % 360 - 180) (by omega) (by omega)
  have e : sinF d = -sinN (d % 360 - 180).toNat := by
    unfold sinF
    rw [if_neg (by omega), if_neg h0, if_pos h]
  rw [e]
  clear e
  go_enter Tryd.func82, Tryd.ntmps82
  go_upto_region 2 with (go_at_call 89; refine (sdeg_x d _).mono ?_; rintro e w' ⟨rfl, hw⟩; subst hw)
  rename_i K hK
  refine wp_region_list (wpList_step fun K2 hK2 => ?_)
  rw [if_pos (by simp [Region.wanted])]
  unfold Oper.wp
  rw [pval_ok (ld := fun _ => none) (fun _ _ h => by cases h) _ (.enter 90 #[]) (by kernel_rfl)]
  show Calls Tryd.prog 90 #[] _ _
  refine (tab_x _).mono ?_
  rintro e w2 ⟨rfl, hw2⟩
  subst hw2
  refine hK2 _ _ (wpList_step fun K2 hK2 => ?_)
  rw [if_pos (by simp [Region.wanted])]
  unfold Oper.wp
  rw [pnv (o := .cells zerV 96 (0, 0)) (f := fun g => .value (.pointer (some ⟨g, 0, none⟩))) (fun g => by kernel_rfl)]
  refine hK2 _ _ (wpList_step fun K2 hK2 => ?_)
  rw [if_pos (by simp [Region.wanted])]
  unfold Oper.wp
  rw [st_run _ _ _ _ _ _ _ _ rfl rfl]
  refine hK2 _ _ (hK _ _ ?_)
  have hc := tab_cell w' (i := (d % 360 - 180).toNat) (by omega)
  have hbel : Bel w' ((World.alloc w' tabO).alloc tabO) := ((Bel.refl _).alloc _).alloc _
  generalize hW : World.alloc (World.alloc w' tabO) tabO = W at *
  clear hK
  simp only [Act.put]
  go_wp2
  go_ret
  exact ⟨rfl, hbel⟩
theorem ssine_4 (d : Int) (w : World) (h0 : ¬ d % 360 ≤ 270) : Calls Tryd.prog 82 #[.int .i64 d] w fun e w' => e = .returned (.int .i64 (sinF d)) ∧ Bel w w' := by
  have m0 := Int.emod_nonneg d (show (360 : Int) ≠ 0 by omega)
  have m1 := Int.emod_lt_of_pos d (show (0 : Int) < 360 by omega)
  have hb := sinN_in (k := 360 - d % 360) (by omega) (by omega)
  have e : sinF d = -sinN (360 - d % 360).toNat := by
    unfold sinF
    rw [if_neg (by omega), if_neg (by omega), if_neg h0]
  rw [e]
  clear e
  go_enter Tryd.func82, Tryd.ntmps82
  go_upto_region 2 with (go_at_call 89; refine (sdeg_x d _).mono ?_; rintro e w' ⟨rfl, hw⟩; subst hw)
  rename_i K hK
  refine wp_region_list (wpList_step fun K2 hK2 => ?_)
  rw [if_pos (by simp [Region.wanted])]
  unfold Oper.wp
  rw [pval_ok (ld := fun _ => none) (fun _ _ h => by cases h) _ (.enter 90 #[]) (by kernel_rfl)]
  show Calls Tryd.prog 90 #[] _ _
  refine (tab_x _).mono ?_
  rintro e w2 ⟨rfl, hw2⟩
  subst hw2
  refine hK2 _ _ (wpList_step fun K2 hK2 => ?_)
  rw [if_pos (by simp [Region.wanted])]
  unfold Oper.wp
  rw [pnv (o := .cells zerV 96 (0, 0)) (f := fun g => .value (.pointer (some ⟨g, 0, none⟩))) (fun g => by kernel_rfl)]
  refine hK2 _ _ (wpList_step fun K2 hK2 => ?_)
  rw [if_pos (by simp [Region.wanted])]
  unfold Oper.wp
  rw [st_run _ _ _ _ _ _ _ _ rfl rfl]
  refine hK2 _ _ (hK _ _ ?_)
  have hc := tab_cell w' (i := (360 - d % 360).toNat) (by omega)
  have hbel : Bel w' ((World.alloc w' tabO).alloc tabO) := ((Bel.refl _).alloc _).alloc _
  generalize hW : World.alloc (World.alloc w' tabO) tabO = W at *
  clear hK
  simp only [Act.put]
  go_wp2
  go_ret
  exact ⟨rfl, hbel⟩
theorem ssine_x (d : Int) (w : World) : Calls Tryd.prog 82 #[.int .i64 d] w fun e w' => e = .returned (.int .i64 (sinF d)) ∧ Bel w w' := by
  by_cases h1 : d % 360 ≤ 90
  · exact ssine_1 d w h1
  · by_cases h2 : d % 360 ≤ 180
    · exact ssine_2 d w h1 h2
    · by_cases h3 : d % 360 ≤ 270
      · exact ssine_3 d w h2 h3
      · exact ssine_4 d w h3
def g_impl_Sine : List AV → Option Sg
  | [.s (.int d)] => some ⟨True, [.s (.int (sinF d))]⟩
  | _ => none
def g_spec_Sine : List AV → Option Sg
  | [.s (.int d)] => some ⟨True, [.s (.int (sinF d))]⟩
  | _ => none
theorem F_impl_Sine : FunOK 78 g_impl_Sine := by
  intro avs sg hg hn L0 args w hL hA
  refine ⟨callFunc_enter Tryd.func78 (by kernel_rfl) (by kernel_rfl) _ w, ?_⟩
  unfold g_impl_Sine at hg
  split at hg
  · rename_i d
    injection hg with hg; subst hg
    obtain ⟨al⟩ := args
    match al, hA with
    | [v], hA =>
      have hv : v = .int .i64 d := hA.1
      subst hv
      refine (isine_x d w hL.inv).mono ?_
      rintro e w' ⟨rfl, rfl⟩
      exact ⟨_, rfl, rfl, Bel.refl _⟩
  · cases hg
theorem F_spec_Sine : FunOK 82 g_spec_Sine := by
  intro avs sg hg hn L0 args w hL hA
  refine ⟨callFunc_enter Tryd.func82 (by kernel_rfl) (by kernel_rfl) _ w, ?_⟩
  unfold g_spec_Sine at hg
  split at hg
  · rename_i d
    injection hg with hg; subst hg
    obtain ⟨al⟩ := args
    match al, hA with
    | [v], hA =>
      have hv : v = .int .i64 d := hA.1
      subst hv
      refine (ssine_x d w).mono ?_
      rintro e w' ⟨rfl, hb⟩
      exact ⟨_, rfl, rfl, hb⟩
  · cases hg
end Go.Proofs.YtejiomhoflnboaaDoor
