/- The sine: 91 values, and the walk of both sides. -/
import Derived.Test.YtejiomhoflnboaaDoorAxC
import Derived.Deep.Cut
namespace Go.Proofs.YtejiomhoflnboaaDoor
open Go.RowKit
set_option maxRecDepth 100000
def sinT : List Int := [0, 71, 143, 214, 286, 357, 428, 499, 570, 641, 711, 782, 852, 921, 991, 1060, 1129, 1198, 1266, 1334, 1401, 1468, 1534, 1600, 1666, 1731, 1796, 1860, 1923, 1986, 2048, 2110, 2171, 2231, 2290, 2349, 2408, 2465, 2522, 2578, 2633, 2687, 2741, 2793, 2845, 2896, 2946, 2996, 3044, 3091, 3138, 3183, 3228, 3271, 3314, 3355, 3396, 3435, 3474, 3511, 3547, 3582, 3617, 3650, 3681, 3712, 3742, 3770, 3798, 3824, 3849, 3873, 3896, 3917, 3937, 3956, 3974, 3991, 4006, 4021, 4034, 4046, 4056, 4065, 4074, 4080, 4086, 4090, 4094, 4095, 4096]
def sinN (n : Nat) : Int := sinT.getD n 0
noncomputable def regOf (i : Nat) : Code → List Oper
  | .region j ops _ => if i == j then ops.toList else []
  | .seq x y => regOf i x ++ regOf i y
  | .cond _ x y => regOf i x ++ regOf i y
  | .block _ x => regOf i x
  | .loop x => regOf i x
  | _ => []
noncomputable def r7 : List Oper := regOf 7 (Tryd.f78.body.getD .skip)
def R7 (n : Nat) : Prop := ∀ (v1 v2 : Value) (s : Int) (l : List Value), (cOps ldG (cFun ldG 8) 24 r7 r7 (ini 0 (.int .i64 n :: v1 :: v2 :: .int .i64 s :: l))).map (fun m => lk m 2) = some (.int .i64 (IntKind.i64.wrap (s * sinN n)))
theorem r7_0 : R7 0 := fun v1 v2 s l => by kernel_rfl
theorem r7_1 : R7 1 := fun v1 v2 s l => by kernel_rfl
theorem r7_2 : R7 2 := fun v1 v2 s l => by kernel_rfl
theorem r7_3 : R7 3 := fun v1 v2 s l => by kernel_rfl
theorem r7_4 : R7 4 := fun v1 v2 s l => by kernel_rfl
theorem r7_5 : R7 5 := fun v1 v2 s l => by kernel_rfl
theorem r7_6 : R7 6 := fun v1 v2 s l => by kernel_rfl
theorem r7_7 : R7 7 := fun v1 v2 s l => by kernel_rfl
theorem r7_8 : R7 8 := fun v1 v2 s l => by kernel_rfl
theorem r7_9 : R7 9 := fun v1 v2 s l => by kernel_rfl
theorem r7_10 : R7 10 := fun v1 v2 s l => by kernel_rfl
theorem r7_11 : R7 11 := fun v1 v2 s l => by kernel_rfl
theorem r7_12 : R7 12 := fun v1 v2 s l => by kernel_rfl
theorem r7_13 : R7 13 := fun v1 v2 s l => by kernel_rfl
theorem r7_14 : R7 14 := fun v1 v2 s l => by kernel_rfl
theorem r7_15 : R7 15 := fun v1 v2 s l => by kernel_rfl
theorem r7_16 : R7 16 := fun v1 v2 s l => by kernel_rfl
theorem r7_17 : R7 17 := fun v1 v2 s l => by kernel_rfl
theorem r7_18 : R7 18 := fun v1 v2 s l => by kernel_rfl
theorem r7_19 : R7 19 := fun v1 v2 s l => by kernel_rfl
theorem r7_20 : R7 20 := fun v1 v2 s l => by kernel_rfl
theorem r7_21 : R7 21 := fun v1 v2 s l => by kernel_rfl
theorem r7_22 : R7 22 := fun v1 v2 s l => by kernel_rfl
theorem r7_23 : R7 23 := fun v1 v2 s l => by kernel_rfl
theorem r7_24 : R7 24 := fun v1 v2 s l => by kernel_rfl
theorem r7_25 : R7 25 := fun v1 v2 s l => by kernel_rfl
theorem r7_26 : R7 26 := fun v1 v2 s l => by kernel_rfl
theorem r7_27 : R7 27 := fun v1 v2 s l => by kernel_rfl
theorem r7_28 : R7 28 := fun v1 v2 s l => by kernel_rfl
theorem r7_29 : R7 29 := fun v1 v2 s l => by kernel_rfl
theorem r7_30 : R7 30 := fun v1 v2 s l => by kernel_rfl
theorem r7_31 : R7 31 := fun v1 v2 s l => by kernel_rfl
theorem r7_32 : R7 32 := fun v1 v2 s l => by kernel_rfl
theorem r7_33 : R7 33 := fun v1 v2 s l => by kernel_rfl
theorem r7_34 : R7 34 := fun v1 v2 s l => by kernel_rfl
theorem r7_35 : R7 35 := fun v1 v2 s l => by kernel_rfl
theorem r7_36 : R7 36 := fun v1 v2 s l => by kernel_rfl
theorem r7_37 : R7 37 := fun v1 v2 s l => by kernel_rfl
theorem r7_38 : R7 38 := fun v1 v2 s l => by kernel_rfl
theorem r7_39 : R7 39 := fun v1 v2 s l => by kernel_rfl
theorem r7_40 : R7 40 := fun v1 v2 s l => by kernel_rfl
theorem r7_41 : R7 41 := fun v1 v2 s l => by kernel_rfl
theorem r7_42 : R7 42 := fun v1 v2 s l => by kernel_rfl
theorem r7_43 : R7 43 := fun v1 v2 s l => by kernel_rfl
theorem r7_44 : R7 44 := fun v1 v2 s l => by kernel_rfl
theorem r7_45 : R7 45 := fun v1 v2 s l => by kernel_rfl
theorem r7_46 : R7 46 := fun v1 v2 s l => by kernel_rfl
theorem r7_47 : R7 47 := fun v1 v2 s l => by kernel_rfl
theorem r7_48 : R7 48 := fun v1 v2 s l => by kernel_rfl
theorem r7_49 : R7 49 := fun v1 v2 s l => by kernel_rfl
theorem r7_50 : R7 50 := fun v1 v2 s l => by kernel_rfl
theorem r7_51 : R7 51 := fun v1 v2 s l => by kernel_rfl
theorem r7_52 : R7 52 := fun v1 v2 s l => by kernel_rfl
theorem r7_53 : R7 53 := fun v1 v2 s l => by kernel_rfl
theorem r7_54 : R7 54 := fun v1 v2 s l => by kernel_rfl
theorem r7_55 : R7 55 := fun v1 v2 s l => by kernel_rfl
theorem r7_56 : R7 56 := fun v1 v2 s l => by kernel_rfl
theorem r7_57 : R7 57 := fun v1 v2 s l => by kernel_rfl
theorem r7_58 : R7 58 := fun v1 v2 s l => by kernel_rfl
theorem r7_59 : R7 59 := fun v1 v2 s l => by kernel_rfl
theorem r7_60 : R7 60 := fun v1 v2 s l => by kernel_rfl
theorem r7_61 : R7 61 := fun v1 v2 s l => by kernel_rfl
theorem r7_62 : R7 62 := fun v1 v2 s l => by kernel_rfl
theorem r7_63 : R7 63 := fun v1 v2 s l => by kernel_rfl
theorem r7_64 : R7 64 := fun v1 v2 s l => by kernel_rfl
theorem r7_65 : R7 65 := fun v1 v2 s l => by kernel_rfl
theorem r7_66 : R7 66 := fun v1 v2 s l => by kernel_rfl
theorem r7_67 : R7 67 := fun v1 v2 s l => by kernel_rfl
theorem r7_68 : R7 68 := fun v1 v2 s l => by kernel_rfl
theorem r7_69 : R7 69 := fun v1 v2 s l => by kernel_rfl
theorem r7_70 : R7 70 := fun v1 v2 s l => by kernel_rfl
theorem r7_71 : R7 71 := fun v1 v2 s l => by kernel_rfl
theorem r7_72 : R7 72 := fun v1 v2 s l => by kernel_rfl
theorem r7_73 : R7 73 := fun v1 v2 s l => by kernel_rfl
theorem r7_74 : R7 74 := fun v1 v2 s l => by kernel_rfl
theorem r7_75 : R7 75 := fun v1 v2 s l => by kernel_rfl
theorem r7_76 : R7 76 := fun v1 v2 s l => by kernel_rfl
theorem r7_77 : R7 77 := fun v1 v2 s l => by kernel_rfl
theorem r7_78 : R7 78 := fun v1 v2 s l => by kernel_rfl
theorem r7_79 : R7 79 := fun v1 v2 s l => by kernel_rfl
theorem r7_80 : R7 80 := fun v1 v2 s l => by kernel_rfl
theorem r7_81 : R7 81 := fun v1 v2 s l => by kernel_rfl
theorem r7_82 : R7 82 := fun v1 v2 s l => by kernel_rfl
theorem r7_83 : R7 83 := fun v1 v2 s l => by kernel_rfl
theorem r7_84 : R7 84 := fun v1 v2 s l => by kernel_rfl
theorem r7_85 : R7 85 := fun v1 v2 s l => by kernel_rfl
theorem r7_86 : R7 86 := fun v1 v2 s l => by kernel_rfl
theorem r7_87 : R7 87 := fun v1 v2 s l => by kernel_rfl
theorem r7_88 : R7 88 := fun v1 v2 s l => by kernel_rfl
theorem r7_89 : R7 89 := fun v1 v2 s l => by kernel_rfl
theorem r7_90 : R7 90 := fun v1 v2 s l => by kernel_rfl
theorem r7_all : ∀ n : Nat, n < 91 → R7 n
  | 0, _ => r7_0
  | 1, _ => r7_1
  | 2, _ => r7_2
  | 3, _ => r7_3
  | 4, _ => r7_4
  | 5, _ => r7_5
  | 6, _ => r7_6
  | 7, _ => r7_7
  | 8, _ => r7_8
  | 9, _ => r7_9
  | 10, _ => r7_10
  | 11, _ => r7_11
  | 12, _ => r7_12
  | 13, _ => r7_13
  | 14, _ => r7_14
  | 15, _ => r7_15
  | 16, _ => r7_16
  | 17, _ => r7_17
  | 18, _ => r7_18
  | 19, _ => r7_19
  | 20, _ => r7_20
  | 21, _ => r7_21
  | 22, _ => r7_22
  | 23, _ => r7_23
  | 24, _ => r7_24
  | 25, _ => r7_25
  | 26, _ => r7_26
  | 27, _ => r7_27
  | 28, _ => r7_28
  | 29, _ => r7_29
  | 30, _ => r7_30
  | 31, _ => r7_31
  | 32, _ => r7_32
  | 33, _ => r7_33
  | 34, _ => r7_34
  | 35, _ => r7_35
  | 36, _ => r7_36
  | 37, _ => r7_37
  | 38, _ => r7_38
  | 39, _ => r7_39
  | 40, _ => r7_40
  | 41, _ => r7_41
  | 42, _ => r7_42
  | 43, _ => r7_43
  | 44, _ => r7_44
  | 45, _ => r7_45
  | 46, _ => r7_46
  | 47, _ => r7_47
  | 48, _ => r7_48
  | 49, _ => r7_49
  | 50, _ => r7_50
  | 51, _ => r7_51
  | 52, _ => r7_52
  | 53, _ => r7_53
  | 54, _ => r7_54
  | 55, _ => r7_55
  | 56, _ => r7_56
  | 57, _ => r7_57
  | 58, _ => r7_58
  | 59, _ => r7_59
  | 60, _ => r7_60
  | 61, _ => r7_61
  | 62, _ => r7_62
  | 63, _ => r7_63
  | 64, _ => r7_64
  | 65, _ => r7_65
  | 66, _ => r7_66
  | 67, _ => r7_67
  | 68, _ => r7_68
  | 69, _ => r7_69
  | 70, _ => r7_70
  | 71, _ => r7_71
  | 72, _ => r7_72
  | 73, _ => r7_73
  | 74, _ => r7_74
  | 75, _ => r7_75
  | 76, _ => r7_76
  | 77, _ => r7_77
  | 78, _ => r7_78
  | 79, _ => r7_79
  | 80, _ => r7_80
  | 81, _ => r7_81
  | 82, _ => r7_82
  | 83, _ => r7_83
  | 84, _ => r7_84
  | 85, _ => r7_85
  | 86, _ => r7_86
  | 87, _ => r7_87
  | 88, _ => r7_88
  | 89, _ => r7_89
  | 90, _ => r7_90
  | n + 91, h => absurd h (by omega)
theorem r7_ok {k s : Int} (h0 : 0 ≤ k) (h1 : k ≤ 90) {w : World} (hI : GInv w) {v1 v2 : Value} {l : List Value} (hl : l.length = 20) {Q : Exit → Act → World → Prop}
    (hq : ∀ a' : Act, a'.defers = [] → a'.tmps.getD 2 undef = .int .i64 (IntKind.i64.wrap (s * sinN k.toNat)) → Q .normal a' w) :
    (Code.region 7 r7.toArray false).wp Tryd.prog Q { tmps := (.int .i64 k :: v1 :: v2 :: .int .i64 s :: l).toArray, defers := [] } w := by
  have hv := r7_all k.toNat (by omega) v1 v2 s l
  rw [Int.toNat_of_nonneg h0] at hv
  cases hc : cOps ldG (cFun ldG 8) 24 r7 r7 (ini 0 (.int .i64 k :: v1 :: v2 :: .int .i64 s :: l)) with
  | none => rw [hc] at hv; cases hv
  | some m =>
    rw [hc] at hv
    have hv' : lk m 2 = .int .i64 (IntKind.i64.wrap (s * sinN k.toNat)) := Option.some.inj hv
    refine wp_region_list ?_
    have hag := ag_arr (.int .i64 k :: v1 :: v2 :: .int .i64 s :: l)
    rw [show (Value.int .i64 k :: v1 :: v2 :: .int .i64 s :: l).length = 24 by simp [hl]] at hag
    exact cOps_ok (Q := Q) hI.2 (cFun_ok hI.2 8) _ _ _ _ hag hc fun a' ha => hq a' ha.dfs (by rw [ha.all, hv'])
theorem deg_x (d : Int) (w : World) : Calls Tryd.prog 52 #[.int .i64 d] w fun e w' => e = .returned (.int .i64 (d % 360)) ∧ w' = w := by
  have h1 : -360 < d.tmod 360 ∧ d.tmod 360 < 360 := by
    have := Int.tmod_lt_of_pos d (show (0:Int) < 360 by omega)
    have := Int.lt_tmod_of_pos d (show (0:Int) < 360 by omega)
    omega
  have W1 : IntKind.i64.wrap (d.tmod 360 + 360) = d.tmod 360 + 360 := IntWalk.i64_in _ (by omega)
  have e : (d.tmod 360 + 360).tmod 360 = d % 360 := by
    rw [Int.tmod_eq_emod_of_nonneg (by omega)]
    rcases Int.le_total 0 d with h | h
    · have := Int.tmod_eq_emod_of_nonneg (b := 360) h; omega
    · obtain ⟨c, rfl⟩ : ∃ c, d = -c := ⟨-d, by omega⟩
      have e1 : (-c).tmod 360 = -(c % 360) := by rw [Int.neg_tmod, Int.tmod_eq_emod_of_nonneg (by omega)]
      omega
  go_enter Tryd.func52, Tryd.ntmps52
  go_wp2
  go_ret
  exact ⟨rfl, rfl⟩
def sinF (d : Int) : Int := if d % 360 ≤ 90 then sinN (d % 360).toNat else if d % 360 ≤ 180 then sinN (180 - d % 360).toNat else if d % 360 ≤ 270 then -sinN (d % 360 - 180).toNat else -sinN (360 - d % 360).toNat
theorem sinN_bd : ∀ k : Fin 91, 0 ≤ sinN k ∧ sinN k ≤ 4096 := by decide +kernel
theorem sinN_in {k : Int} (h0 : 0 ≤ k) (h1 : k ≤ 90) : 0 ≤ sinN k.toNat ∧ sinN k.toNat ≤ 4096 := sinN_bd ⟨k.toNat, by omega⟩
theorem isine_x (d : Int) (w : World) (hI : GInv w) : Calls Tryd.prog 78 #[.int .i64 d] w fun e w' => e = .returned (.int .i64 (sinF d)) ∧ w' = w := by
  have m0 := Int.emod_nonneg d (show (360 : Int) ≠ 0 by omega)
  have m1 := Int.emod_lt_of_pos d (show (0 : Int) < 360 by omega)
  by_cases h : 180 ≤ d % 360
  · have hk0 : 0 ≤ (if 180 - (d % 360 - 180) < d % 360 - 180 then 180 - (d % 360 - 180) else d % 360 - 180) := by split <;> omega
    have hk1 : (if 180 - (d % 360 - 180) < d % 360 - 180 then 180 - (d % 360 - 180) else d % 360 - 180) ≤ 90 := by split <;> omega
    have hb := sinN_in hk0 hk1
    have e : sinF d = IntKind.i64.wrap (-1 * sinN (if 180 - (d % 360 - 180) < d % 360 - 180 then 180 - (d % 360 - 180) else d % 360 - 180).toNat) := by
      rw [IntWalk.i64_in _ (by omega)]
      unfold sinF
      rw [if_neg (by omega)]
      by_cases h2 : d % 360 ≤ 180
      · rw [if_pos h2, if_neg (by omega), show d % 360 = 180 by omega]; decide
      · rw [if_neg h2]
        by_cases h3 : d % 360 ≤ 270
        · rw [if_pos h3, if_neg (by omega)]; omega
        · rw [if_neg h3, if_pos (by omega), show 180 - (d % 360 - 180) = 360 - d % 360 by omega]; omega
    rw [e]
    clear e
    go_enter Tryd.func78, Tryd.ntmps78
    go_upto_region 7 with (go_at_call 52; refine (deg_x d _).mono ?_; rintro e w' ⟨rfl, hw⟩; subst hw)
    rename_i K hK
    refine r7_ok hk0 hk1 hI (l := [_, _, _, _, _, _, _, _, _, _, _, _, _, _, _, _, _, _, _, _]) rfl fun a' hd hv => ?_
    refine hK _ _ (wp_ret ⟨hd, _, results_tmp rfl _ _, by rw [hv], rfl⟩)
  · have hk0 : 0 ≤ (if 180 - d % 360 < d % 360 then 180 - d % 360 else d % 360) := by split <;> omega
    have hk1 : (if 180 - d % 360 < d % 360 then 180 - d % 360 else d % 360) ≤ 90 := by split <;> omega
    have hb := sinN_in hk0 hk1
    have e : sinF d = IntKind.i64.wrap (1 * sinN (if 180 - d % 360 < d % 360 then 180 - d % 360 else d % 360).toNat) := by
      rw [IntWalk.i64_in _ (by omega)]
      unfold sinF
      by_cases h2 : d % 360 ≤ 90
      · rw [if_pos h2, if_neg (by omega)]; omega
      · rw [if_neg h2, if_pos (by omega), if_pos (by omega)]; omega
    rw [e]
    clear e
    go_enter Tryd.func78, Tryd.ntmps78
    go_upto_region 7 with (go_at_call 52; refine (deg_x d _).mono ?_; rintro e w' ⟨rfl, hw⟩; subst hw)
    rename_i K hK
    refine r7_ok hk0 hk1 hI (l := [_, _, _, _, _, _, _, _, _, _, _, _, _, _, _, _, _, _, _, _]) rfl fun a' hd hv => ?_
    refine hK _ _ (wp_ret ⟨hd, _, results_tmp rfl _ _, by rw [hv], rfl⟩)
end Go.Proofs.YtejiomhoflnboaaDoor