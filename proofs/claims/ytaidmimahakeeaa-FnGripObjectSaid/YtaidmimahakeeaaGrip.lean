/- The gripper's functions: what they return, by plain functions. -/
import Derived.Test.YtaidmimahakeeaaPure
namespace Go.Proofs.Ytaidmimahakeeaa
open Go.RowKit
def fitsB (a b c d : Int) : Bool := inB a 0 200 && inB b 0 200 && inB d 0 200 && inB c 1 200
theorem gripFits_c (a b c d : Int) (w : World) : Calls Try.prog 30 #[.int .i64 a, .int .i64 b, .int .i64 c, .int .i64 d] w fun e w' => e = .returned (.bool (fitsB a b c d)) ∧ w = w' := by
  have T1 := Lib.hid (within_c a 0 200)
  cases h1 : inB a 0 200 <;> cases h2 : inB b 0 200 <;> cases h3 : inB d 0 200
  all_goals
    go_enter Try.func30, Try.ntmps30
    go_wp2_with (go_at_call 28; refine (within_c _ _ _ _).mono ?_; rintro e w' ⟨rfl, rfl⟩)
    go_ret
    exact ⟨ret_bool (by simp [fitsB, h1, h2, h3]), rfl⟩
def holdsB (f u w : Int) : Bool := inB f 0 1000 && inB u 0 200 && inB w 0 1000 && decide (100 * w ≤ 2 * f * u)
theorem HoldsWeight_i (f u x : Int) (w : World) : Calls Try.prog 11 #[.int .i64 f, .int .i64 u, .int .i64 x] w fun e w' => e = .returned (.bool (holdsB f u x)) ∧ w = w' := by
  cases h1 : inB f 0 1000 <;> cases h2 : inB u 0 200 <;> cases h3 : inB x 0 1000
  case true.true.true =>
    have b1 := inB_true h1
    have b2 := inB_true h2
    have b3 := inB_true h3
    obtain ⟨b4, b5⟩ := mul_bd (a := 2 * f) (A := 2000) (by omega) (by omega) b2.1 b2.2
    obtain ⟨b11, b12⟩ := b1
    obtain ⟨b21, b22⟩ := b2
    obtain ⟨b31, b32⟩ := b3
    go_enter Try.func11, Try.ntmps11
    go_wp2_with (go_at_call 28; refine (within_c _ _ _ _).mono ?_; rintro e w' ⟨rfl, rfl⟩)
    go_ret
    exact ⟨ret_bool (by simp [holdsB, h1, h2, h3]), rfl⟩
  all_goals
    go_enter Try.func11, Try.ntmps11
    go_wp2_with (go_at_call 28; refine (within_c _ _ _ _).mono ?_; rintro e w' ⟨rfl, rfl⟩)
    go_ret
    exact ⟨ret_bool (by simp [holdsB, h1, h2, h3]), rfl⟩
theorem HoldsWeight_s (f u x : Int) (w : World) : Calls Try.prog 10 #[.int .i64 f, .int .i64 u, .int .i64 x] w fun e w' => e = .returned (.bool (holdsB f u x)) ∧ w = w' := by
  cases h1 : inB f 0 1000 <;> cases h2 : inB u 0 200 <;> cases h3 : inB x 0 1000
  case true.true.true =>
    have b1 := inB_true h1
    have b2 := inB_true h2
    have b3 := inB_true h3
    obtain ⟨b4, b5⟩ := mul_bd (a := 2 * f) (A := 2000) (by omega) (by omega) b2.1 b2.2
    obtain ⟨b11, b12⟩ := b1
    obtain ⟨b21, b22⟩ := b2
    obtain ⟨b31, b32⟩ := b3
    go_enter Try.func10, Try.ntmps10
    go_wp2_with (go_at_call 27; refine (l1In_c _ _ _ _).mono ?_; rintro e w' ⟨rfl, rfl⟩)
    go_ret
    exact ⟨ret_bool (by simp [holdsB, h1, h2, h3]), rfl⟩
  all_goals
    go_enter Try.func10, Try.ntmps10
    go_wp2_with (go_at_call 27; refine (l1In_c _ _ _ _).mono ?_; rintro e w' ⟨rfl, rfl⟩)
    go_ret
    exact ⟨ret_bool (by simp [holdsB, h1, h2, h3]), rfl⟩
def gripN (a b c d : Int) : Int := if d ≤ a then max (a + max (-c) (min c (b - a))) d else a + max (-c) (min c (b - a))
def gripH (a b c d : Int) : Bool := decide (1 ≤ d) && decide (gripN a b c d = d) && decide (b < d)
def gripV (a b c d : Int) : Value := if fitsB a b c d then .tuple #[.int .i64 (gripN a b c d), .bool (gripH a b c d)] else .tuple #[.int .i64 (-1), .bool false]
theorem fits_bd {a b c d : Int} (h : fitsB a b c d = true) : 0 ≤ a ∧ a ≤ 200 ∧ 0 ≤ b ∧ b ≤ 200 ∧ 1 ≤ c ∧ c ≤ 200 ∧ 0 ≤ d ∧ d ≤ 200 := by
  simp only [fitsB, Bool.and_eq_true] at h
  have h1 := inB_true h.1.1.1
  have h2 := inB_true h.1.1.2
  have h3 := inB_true h.1.2
  have h4 := inB_true h.2
  omega
theorem GripStep_i (a b c d : Int) (w : World) : Calls Try.prog 13 #[.int .i64 a, .int .i64 b, .int .i64 c, .int .i64 d] w fun e w' => e = .returned (gripV a b c d) ∧ w = w' := by
  unfold gripV
  cases h1 : fitsB a b c d
  · have H1 := Lib.hid h1
    clear h1
    go_enter Try.func13, Try.ntmps13
    go_wp2_with (go_at_call 30; refine (gripFits_c _ _ _ _ _).mono ?_; rintro e w' ⟨rfl, rfl⟩; rw [H1.out])
    go_ret2
    exact ⟨rfl, rfl⟩
  · have H1 := Lib.hid h1
    obtain ⟨b1, b2, b3, b4, b5, b6, b7, b8⟩ := fits_bd h1
    clear h1
    go_enter Try.func13, Try.ntmps13
    go_wp2_with (first
      | (go_at_call 30; refine (gripFits_c _ _ _ _ _).mono ?_; rintro e w' ⟨rfl, rfl⟩; rw [H1.out])
      | (go_at_call 31; refine (clamp_c _ _ _ _).mono ?_; rintro e w' ⟨rfl, rfl⟩))
    all_goals
      go_ret2
      refine ⟨ret_two ?_ ?_, rfl⟩
      · simp only [gripN]; split <;> omega
      · rw [Bool.eq_iff_iff]
        simp only [gripH, gripN, Bool.and_eq_true, decide_eq_true_eq]
        (try split) <;> (first | omega | (simp; omega) | skip)
theorem fits_no {a b c d : Int} (h : fitsB a b c d = false) : inB a 0 200 = false ∨ (inB a 0 200 = true ∧ inB b 0 200 = false) ∨ (inB a 0 200 = true ∧ inB b 0 200 = true ∧ inB d 0 200 = false) ∨ (inB a 0 200 = true ∧ inB b 0 200 = true ∧ inB d 0 200 = true ∧ inB c 1 200 = false) := by
  unfold fitsB at h
  cases h1 : inB a 0 200 <;> cases h2 : inB b 0 200 <;> cases h3 : inB d 0 200 <;> cases h4 : inB c 1 200 <;> simp [h1, h2, h3, h4] at h ⊢
theorem fits_yes {a b c d : Int} (h : fitsB a b c d = true) : inB a 0 200 = true ∧ inB b 0 200 = true ∧ inB d 0 200 = true ∧ inB c 1 200 = true := by
  simp only [fitsB, Bool.and_eq_true] at h; exact ⟨h.1.1.1, h.1.1.2, h.1.2, h.2⟩
theorem gripN_s (a b c d n : Int) (h0 : n = max (a - c) (min (a + c) b)) (h1 : 0 ≤ c) (m : Int) (h2 : d ≤ a → m = max n d) (h3 : a < d → m = n) : m = gripN a b c d := by
  simp only [gripN]; split <;> omega
theorem GripStep_s (a b c d : Int) (w : World) : Calls Try.prog 12 #[.int .i64 a, .int .i64 b, .int .i64 c, .int .i64 d] w fun e w' => e = .returned (gripV a b c d) ∧ w = w' := by
  unfold gripV
  cases h1 : fitsB a b c d
  · rcases fits_no h1 with h | ⟨h, h'⟩ | ⟨h, h', h''⟩ | ⟨h, h', h'', h'''⟩
    all_goals
      clear h1
      go_enter Try.func12, Try.ntmps12
      go_wp2_with (go_at_call 27; refine (l1In_c _ _ _ _).mono ?_; rintro e w' ⟨rfl, rfl⟩)
      go_ret2
      exact ⟨rfl, rfl⟩
  · obtain ⟨b1, b2, b3, b4, b5, b6, b7, b8⟩ := fits_bd h1
    obtain ⟨h, h', h'', h'''⟩ := fits_yes h1
    clear h1
    go_enter Try.func12, Try.ntmps12
    go_wp2_with (first
      | (go_at_call 27; refine (l1In_c _ _ _ _).mono ?_; rintro e w' ⟨rfl, rfl⟩)
      | (go_at_call 29; refine (l1Clip_c _ _ _ _).mono ?_; rintro e w' ⟨rfl, rfl⟩))
    all_goals
      go_ret2
      refine ⟨ret_two ?_ ?_, rfl⟩
      · simp only [gripN]; split <;> omega
      · rw [Bool.eq_iff_iff]
        simp only [gripH, gripN, Bool.and_eq_true, decide_eq_true_eq]
        (try split) <;> (first | omega | (simp; omega) | skip)
/-- GripTime's loop as a recursion with fuel. -/
def gripT : Nat → Int → Int → Int → Int → Int
  | 0, _, _, _, _ => 0
  | f + 1, a, b, c, d => if gripN a b c d = a then 0 else gripT f (gripN a b c d) b c d + 1
/-- How far the fingers are from where they stop. -/
def gripM (a b d : Int) : Nat := if a ≤ b then (b - a).toNat else if d ≤ a then (a - max b d).toNat else (a - b).toNat
theorem gripN_down {a b c d : Int} (hc : 1 ≤ c) (hn : gripN a b c d ≠ a) : gripM (gripN a b c d) b d < gripM a b d := by
  have e : gripN a b c d = if d ≤ a then max (a + max (-c) (min c (b - a))) d else a + max (-c) (min c (b - a)) := rfl
  generalize gripN a b c d = n at *
  unfold gripM
  by_cases h1 : d ≤ a
  · rw [if_pos h1] at e; (repeat' split) <;> omega
  · rw [if_neg h1] at e; (repeat' split) <;> omega
theorem gripN_fits {a b c d : Int} (h : fitsB a b c d = true) : fitsB (gripN a b c d) b c d = true := by
  obtain ⟨b1, b2, b3, b4, b5, b6, b7, b8⟩ := fits_bd h
  unfold fitsB gripN; split <;> (simp only [Bool.and_eq_true]; refine ⟨⟨⟨inB_mk ?_ ?_, inB_mk ?_ ?_⟩, inB_mk ?_ ?_⟩, inB_mk ?_ ?_⟩ <;> omega)
theorem gripT_more (b c d : Int) (hc : 1 ≤ c) : ∀ (f : Nat) (a : Int), gripM a b d < f → gripT (f + 1) a b c d = gripT f a b c d := by
  intro f
  induction f with
  | zero => intro a h; omega
  | succ f ih =>
    intro a h
    by_cases hn : gripN a b c d = a
    · simp [gripT, hn]
    · have hd := gripN_down hc hn
      rw [gripT, if_neg hn, ih _ (by omega)]; conv => rhs; rw [gripT, if_neg hn]
theorem gripT_le (b c d : Int) : ∀ (f : Nat) (a : Int), 0 ≤ gripT f a b c d ∧ gripT f a b c d ≤ f := by
  intro f
  induction f with
  | zero => intro a; simp [gripT]
  | succ f ih => intro a; have := ih (gripN a b c d); unfold gripT; split <;> omega
def gripTV (a b c d : Int) : Int := if fitsB a b c d then gripT 401 a b c d else -1
set_option maxHeartbeats 400000 in
theorem GripTime_i (a b c d : Int) (w : World) : Calls Try.prog 17 #[.int .i64 a, .int .i64 b, .int .i64 c, .int .i64 d] w fun e w' => e = .returned (.int .i64 (gripTV a b c d)) ∧ w = w' := by
  unfold gripTV
  cases h1 : fitsB a b c d
  · have H1 := Lib.hid h1
    clear h1
    go_enter Try.func17, Try.ntmps17
    go_wp2_with (go_at_call 30; refine (gripFits_c _ _ _ _ _).mono ?_; rintro e w' ⟨rfl, rfl⟩; rw [H1.out])
    go_ret
    exact ⟨rfl, rfl⟩
  · have H1 := Lib.hid h1
    clear h1
    go_enter Try.func17, Try.ntmps17
    go_wp2_with (go_at_call 30; refine (gripFits_c _ _ _ _ _).mono ?_; rintro e w' ⟨rfl, rfl⟩; rw [H1.out])
    go_loopw [0, 9] (fun x i wr => ∃ (k : Nat) (y : Int), i = .int .i64 k ∧ x = .int .i64 y ∧ fitsB y b c d = true ∧ gripT 401 a b c d = gripT 401 y b c d + k ∧ k + gripM y b d ≤ 400 ∧ w = wr) (fun x _ _ => gripM (intOf x) b d)
    case atStart =>
      refine ⟨0, a, rfl, rfl, H1.out, by omega, ?_, rfl⟩
      obtain ⟨b1, b2, b3, b4, b5, b6, b7, b8⟩ := fits_bd H1.out
      unfold gripM; (repeat' split) <;> omega
    case round =>
      obtain ⟨k, y, rfl, rfl, hy, hk, hm, rfl⟩ := hrel
      have HY := Lib.hid hy
      have HK := Lib.hid hk
      have HV : gripV y b c d = .tuple #[.int .i64 (gripN y b c d), .bool (gripH y b c d)] := by rw [gripV, hy]; rfl
      have HVV := Lib.hid HV
      clear hy hk HV
      by_cases he : gripN y b c d = y
      · have HE := Lib.hid he
        have h' : (gripN y b c d == y) = true := by simp [he]
        clear he
        go_wp2_with (go_at_call 13; refine (GripStep_i _ _ _ _ _).mono ?_; rintro e w' ⟨rfl, rfl⟩; rw [HVV.out])
        go_ret
        exact ⟨ret_int (by have := HK.out; rw [this]; simp [gripT, HE.out]), rfl⟩
      · have h' : (gripN y b c d == y) = false := by simp [he]
        have hd := gripN_down (fits_bd HY.out).2.2.2.2.1 he
        have HE := Lib.hid he
        clear he
        go_wp2_with (go_at_call 13; refine (GripStep_i _ _ _ _ _).mono ?_; rintro e w' ⟨rfl, rfl⟩; rw [HVV.out])
        go_roundw
        case rel =>
          refine ⟨k + 1, _, by go_num, rfl, gripN_fits HY.out, ?_, by omega, trivial⟩
          have e2 : gripT 401 (gripN y b c d) b c d = gripT 400 (gripN y b c d) b c d := gripT_more b c d (fits_bd HY.out).2.2.2.2.1 400 _ (by omega)
          rw [HK.out, e2, gripT, if_neg HE.out]
          omega
        case measure => simpa [intOf] using hd
set_option maxHeartbeats 400000 in
theorem GripTime_s (a b c d : Int) (w : World) : Calls Try.prog 16 #[.int .i64 a, .int .i64 b, .int .i64 c, .int .i64 d] w fun e w' => e = .returned (.int .i64 (gripTV a b c d)) ∧ w = w' := by
  unfold gripTV
  cases h1 : fitsB a b c d
  · have HVV : Hid (gripV a b c d = .tuple #[.int .i64 (-1), .bool false]) := by show _ = _; rw [gripV, h1]; rfl
    clear h1
    go_enter Try.func16, Try.ntmps16
    go_wp2_with fail
    go_loopw [0, 9] (fun x i wr => i = .int .i64 0 ∧ x = .int .i64 a ∧ w = wr) (fun _ _ _ => 0)
    case atStart => exact ⟨rfl, rfl, rfl⟩
    case round =>
      obtain ⟨rfl, rfl, rfl⟩ := hrel
      go_wp2_with (go_at_call 12; refine (GripStep_s _ _ _ _ _).mono ?_; rintro e w' ⟨rfl, rfl⟩; rw [HVV.out])
      go_ret
      exact ⟨rfl, rfl⟩
  · have H1 := Lib.hid h1
    clear h1
    go_enter Try.func16, Try.ntmps16
    go_wp2_with fail
    go_loopw [0, 9] (fun x i wr => ∃ (k : Nat) (y : Int), i = .int .i64 k ∧ x = .int .i64 y ∧ fitsB y b c d = true ∧ gripT 401 a b c d = gripT 401 y b c d + k ∧ k + gripM y b d ≤ 400 ∧ w = wr) (fun x _ _ => gripM (intOf x) b d)
    case atStart =>
      refine ⟨0, a, rfl, rfl, H1.out, by omega, ?_, rfl⟩
      obtain ⟨b1, b2, b3, b4, b5, b6, b7, b8⟩ := fits_bd H1.out
      unfold gripM; (repeat' split) <;> omega
    case round =>
      obtain ⟨k, y, rfl, rfl, hy, hk, hm, rfl⟩ := hrel
      have HY := Lib.hid hy
      have HK := Lib.hid hk
      have HV : gripV y b c d = .tuple #[.int .i64 (gripN y b c d), .bool (gripH y b c d)] := by rw [gripV, hy]; rfl
      have HVV := Lib.hid HV
      have hge : ¬ gripN y b c d < 0 := by
        have := fits_bd (gripN_fits hy); omega
      clear hy hk HV
      by_cases he : gripN y b c d = y
      · have HE := Lib.hid he
        have h' : (gripN y b c d == y) = true := by simp [he]
        clear he
        go_wp2_with (go_at_call 12; refine (GripStep_s _ _ _ _ _).mono ?_; rintro e w' ⟨rfl, rfl⟩; rw [HVV.out])
        go_ret
        exact ⟨ret_int (by have := HK.out; rw [this]; simp [gripT, HE.out]), rfl⟩
      · have h' : (gripN y b c d == y) = false := by simp [he]
        have hd := gripN_down (fits_bd HY.out).2.2.2.2.1 he
        have HE := Lib.hid he
        clear he
        go_wp2_with (go_at_call 12; refine (GripStep_s _ _ _ _ _).mono ?_; rintro e w' ⟨rfl, rfl⟩; rw [HVV.out])
        go_roundw
        case rel =>
          refine ⟨k + 1, _, by go_num, rfl, gripN_fits HY.out, ?_, by omega, trivial⟩
          have e2 : gripT 401 (gripN y b c d) b c d = gripT 400 (gripN y b c d) b c d := gripT_more b c d (fits_bd HY.out).2.2.2.2.1 400 _ (by omega)
          rw [HK.out, e2, gripT, if_neg HE.out]
          omega
        case measure => simpa [intOf] using hd
end Go.Proofs.Ytaidmimahakeeaa
