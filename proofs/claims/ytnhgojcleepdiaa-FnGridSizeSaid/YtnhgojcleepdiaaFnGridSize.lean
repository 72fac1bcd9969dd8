/- 'FnGridSize': for every code both sides tell the same numbers of cells; both are 0, or both are at least 1 and at most 20, and a greater step does not increase them. Conditions: none. -/
import Derived.Test.YtnhgojcleepdiaaAxO
namespace Go.Proofs.Ytnhgojcleepdiaa
open Go.ChangeShapes Go.WideShapes Go.ChangeAt Go.RowKit
set_option maxRecDepth 100000
set_option linter.unusedSimpArgs false
set_option linter.unusedVariables false
def s_spec_l20Arm (r1 : Int) (r2 : Int) (m : Int) (n : Int) : SgX := ⟨r1 ≤ 2000 ∧ 0 ≤ r2 ∧ r2 ≤ 100000 ∧ 1 ≤ m ∧ m ≤ 4 ∧ -1000000 ≤ n ∧ n ≤ 1000000, [.ints, .ints, .ints, .int], (fun | [.ints x, .ints y, .ints z, .int q] => ilen x ≤ 10 ∧ ilen y ≤ 10 ∧ ilen z ≤ 10 ∧ r2 ≤ q ∧ q ≤ r2 + 100 | _ => False), (fun | [.ints x, .ints y, .ints z, .int q] => [.agg [.view (.ints (x)), .view (.ints (y)), .view (.ints (z))]] | _ => []), (fun | [.ints x, .ints y, .ints z, .int q] => .box [.rdr r1, .int (q)] | _ => .box [])⟩
def g_spec_l20Arm : Bx → List AV → Option SgX
  | .box [.rdr r1, .int r2], [.s (.int m), .s (.int n)] => some (s_spec_l20Arm r1 r2 m n)
  | _, _ => none
def sig_spec_l20Arm : FuncId → List AV → Option Sg := sigL []
def xs_spec_l20Arm : XS := ⟨xsigL [(64, g_spec_l20Rd_pick), (59, g_spec_l20Rd_odd)], ysigL []⟩
theorem sig_spec_l20Arm_ok : SigOK sig_spec_l20Arm := sigL_nil
theorem xs_spec_l20Arm_ok : XSigOK xs_spec_l20Arm := ⟨xsigL_cons F_spec_l20Rd_pick (xsigL_cons F_spec_l20Rd_odd xsigL_nil), ysigL_nil⟩
def L_spec_l20Arm_0 (r2 : Int) (l1_2 : List Int) (k_6 : Int) (k_8 : Int) (l1_3 : List Int) (l1_4 : List Int) (r1 : Int) (q_5 : Int) : Prop := ∃ x : List Int, ∃ y : List Int, ∃ z : List Int, ∃ q : Int, ((ilen x ≤ 10 ∧ ilen y ≤ 10 ∧ ilen z ≤ 10 ∧ r2 ≤ q ∧ q ≤ r2 + 100) ∧ ((((true = true) ∧ ((Cont.ints (seti l1_2 (k_6) (geti [(0 : Int), (501 : Int)] (k_8)))) = (Cont.ints (x)))) ∧ ((true = true) ∧ ((Cont.ints l1_3) = (Cont.ints (y)))) ∧ ((true = true) ∧ ((Cont.ints l1_4) = (Cont.ints (z)))) ∧ True) ∧ True) ∧ ((true = true) ∧ (true = true) ∧ ((r1 : Int) = r1) ∧ ((((((q_5) + 1) + 1) + 1) : Int) = (q)) ∧ True))
def L_spec_l20Arm_1 (r2 : Int) (l1_2 : List Int) (l1_3 : List Int) (k_6 : Int) (l1_4 : List Int) (k_9 : Int) (r1 : Int) (q_5 : Int) : Prop := ∃ x : List Int, ∃ y : List Int, ∃ z : List Int, ∃ q : Int, ((ilen x ≤ 10 ∧ ilen y ≤ 10 ∧ ilen z ≤ 10 ∧ r2 ≤ q ∧ q ≤ r2 + 100) ∧ ((((true = true) ∧ ((Cont.ints l1_2) = (Cont.ints (x)))) ∧ ((true = true) ∧ ((Cont.ints (seti l1_3 (k_6) (geti [(-181 : Int), (iadd (geti l1_4 (k_6)) (1 : Int))] (k_9)))) = (Cont.ints (y)))) ∧ ((true = true) ∧ ((Cont.ints l1_4) = (Cont.ints (z)))) ∧ True) ∧ True) ∧ ((true = true) ∧ (true = true) ∧ ((r1 : Int) = r1) ∧ ((((((q_5) + 1) + 1) + 1) : Int) = (q)) ∧ True))
def L_spec_l20Arm_2 (r2 : Int) (l1_2 : List Int) (l1_3 : List Int) (l1_4 : List Int) (r1 : Int) (q_5 : Int) : Prop := ∃ x : List Int, ∃ y : List Int, ∃ z : List Int, ∃ q : Int, ((ilen x ≤ 10 ∧ ilen y ≤ 10 ∧ ilen z ≤ 10 ∧ r2 ≤ q ∧ q ≤ r2 + 100) ∧ ((((true = true) ∧ ((Cont.ints l1_2) = (Cont.ints (x)))) ∧ ((true = true) ∧ ((Cont.ints l1_3) = (Cont.ints (y)))) ∧ ((Cont.ints (idrop l1_4 (1 : Int))) = (Cont.ints (z))) ∧ True) ∧ True) ∧ ((true = true) ∧ (true = true) ∧ ((r1 : Int) = r1) ∧ (((((q_5) + 1) + 1) : Int) = (q)) ∧ True))
def L_spec_l20Arm_3 (r2 : Int) (l2_0 : List Int) (l1_3 : List Int) (l1_4 : List Int) (r1 : Int) (q_5 : Int) : Prop := ∃ x : List Int, ∃ y : List Int, ∃ z : List Int, ∃ q : Int, ((ilen x ≤ 10 ∧ ilen y ≤ 10 ∧ ilen z ≤ 10 ∧ r2 ≤ q ∧ q ≤ r2 + 100) ∧ ((((true = true) ∧ ((Cont.ints l2_0) = (Cont.ints (x)))) ∧ ((true = true) ∧ ((Cont.ints l1_3) = (Cont.ints (y)))) ∧ ((true = true) ∧ ((Cont.ints l1_4) = (Cont.ints (z)))) ∧ True) ∧ True) ∧ ((true = true) ∧ (true = true) ∧ ((r1 : Int) = r1) ∧ (((((q_5) + 1) + 1) : Int) = (q)) ∧ True))
def L_spec_l20Arm_4 (r2 : Int) (l1_2 : List Int) (l1_3 : List Int) (l1_4 : List Int) (r1 : Int) (q_5 : Int) : Prop := ∃ x : List Int, ∃ y : List Int, ∃ z : List Int, ∃ q : Int, ((ilen x ≤ 10 ∧ ilen y ≤ 10 ∧ ilen z ≤ 10 ∧ r2 ≤ q ∧ q ≤ r2 + 100) ∧ ((((true = true) ∧ ((Cont.ints l1_2) = (Cont.ints (x)))) ∧ ((true = true) ∧ ((Cont.ints l1_3) = (Cont.ints (y)))) ∧ ((true = true) ∧ ((Cont.ints l1_4) = (Cont.ints (z)))) ∧ True) ∧ True) ∧ ((true = true) ∧ (true = true) ∧ ((r1 : Int) = r1) ∧ (((q_5) : Int) = (q)) ∧ True))
theorem V_spec_l20Arm (r1 : Int) (r2 : Int) (m : Int) (n : Int) : ((true = true) ∧ ((True) ∧ True) ∧ (true = true) ∧ ((True) ∧ (True) ∧ True) ∧ (True) ∧ (true = true) ∧ ((True) ∧ True) ∧ ∃ (I1 : List GV → Prop) (μ1 : List GV → Nat), (((true = true) ∧ ((((0 : Int) : Int) = (0 : Int)) ∧ ((True) ∧ (True) ∧ (True) ∧ True) ∧ (true = true) ∧ (true = true) ∧ (true = true) ∧ ((m : Int) = m) ∧ ((n : Int) = n) ∧ True) ∧ (((true = true) ∧ ((Cont.ints []) = (Cont.ints []))) ∧ ((true = true) ∧ ((Cont.ints []) = (Cont.ints []))) ∧ ((true = true) ∧ ((Cont.ints []) = (Cont.ints []))) ∧ ((true = true) ∧ (true = true) ∧ (true = true) ∧ True) ∧ (((r1 : Int) = r1) ∧ ((r2 : Int) = r2) ∧ True) ∧ ((True) ∧ (True) ∧ (True) ∧ True) ∧ True)) ∧ (([GK.int, GK.int, GK.ints, GK.ints, GK.ints] : List GK) = ([GK.int, GK.int, GK.ints, GK.ints, GK.ints] : List GK)) ∧ I1 [GV.int (0 : Int), GV.int r2, GV.ints [], GV.ints [], GV.ints []]) ∧ (∀ i1_0 : Int, ∀ i1_1 : Int, ∀ l1_2 : List Int, ∀ l1_3 : List Int, ∀ l1_4 : List Int, I1 [GV.int i1_0, GV.int i1_1, GV.ints l1_2, GV.ints l1_3, GV.ints l1_4] → ((true = true) ∧ ((True) ∧ (True) ∧ (True) ∧ True) ∧ ((ilt i1_0 m) = true → ((true = true) ∧ ((true = true) ∧ (True) ∧ ((true = true) ∧ (True) ∧ ((true = true) ∧ (True) ∧ ((true = true) ∧ ((r1 ≤ 2000 ∧ 0 ≤ i1_1 ∧ i1_1 ≤ 1000000)) ∧ (∀ k_1 : Int, ((pickP (120 : Int) k_1) → ((true = true) ∧ (True) ∧ ((true = true) ∧ (True) ∧ ((NLe (ilen l1_2) 1000000000 ∧ NLe (ilen [(iadd (1 : Int) (k_1))]) 1000000000) ∧ (True) ∧ (True) ∧ (true = true) ∧ ((True) ∧ True) ∧ (true = true) ∧ ((r1 ≤ 2000 ∧ 0 ≤ (i1_1 + 1) ∧ (i1_1 + 1) ≤ 1000000)) ∧ (∀ k_2 : Int, ((pickP (300 : Int) k_2) → ((True) ∧ (True) ∧ (true = true) ∧ ((True) ∧ (True) ∧ (True) ∧ (True) ∧ True) ∧ (NLe (ilen l1_3) 1000000000 ∧ NLe (ilen [(isub (k_2) (180 : Int))]) 1000000000) ∧ (True) ∧ (True) ∧ (true = true) ∧ ((true = true) ∧ (True) ∧ ((true = true) ∧ (True) ∧ ((true = true) ∧ (True) ∧ ((true = true) ∧ (True) ∧ ((true = true) ∧ (True) ∧ ((true = true) ∧ (True) ∧ ((true = true) ∧ (True) ∧ ((true = true) ∧ ((r1 ≤ 2000 ∧ 0 ≤ ((i1_1 + 1) + 1) ∧ ((i1_1 + 1) + 1) ≤ 1000000)) ∧ (∀ k_3 : Int, ((pickP (imin (60 : Int) (isub (181 : Int) (isub (k_2) (180 : Int)))) k_3) → ((true = true) ∧ (True) ∧ ((true = true) ∧ (True) ∧ ((NLe (ilen l1_4) 1000000000 ∧ NLe (ilen [(iadd (isub (k_2) (180 : Int)) (k_3))]) 1000000000) ∧ (True) ∧ (True) ∧ (true = true) ∧ ((True) ∧ (True) ∧ (True) ∧ True) ∧ ((true = true) ∧ ((((iadd i1_0 (1 : Int)) : Int) = (iadd i1_0 (1 : Int))) ∧ ((True) ∧ (True) ∧ (True) ∧ True) ∧ (true = true) ∧ (true = true) ∧ (true = true) ∧ ((m : Int) = m) ∧ ((n : Int) = n) ∧ True) ∧ (((true = true) ∧ ((Cont.ints (iapp l1_4 [(iadd (isub (k_2) (180 : Int)) (k_3))])) = (Cont.ints (iapp l1_4 [(iadd (isub (k_2) (180 : Int)) (k_3))])))) ∧ ((true = true) ∧ ((Cont.ints (iapp l1_3 [(isub (k_2) (180 : Int))])) = (Cont.ints (iapp l1_3 [(isub (k_2) (180 : Int))])))) ∧ ((true = true) ∧ ((Cont.ints (iapp l1_2 [(iadd (1 : Int) (k_1))])) = (Cont.ints (iapp l1_2 [(iadd (1 : Int) (k_1))])))) ∧ ((true = true) ∧ (true = true) ∧ (true = true) ∧ True) ∧ (((r1 : Int) = r1) ∧ (((((i1_1 + 1) + 1) + 1) : Int) = (((i1_1 + 1) + 1) + 1)) ∧ True) ∧ ((True) ∧ (True) ∧ (True) ∧ True) ∧ True)) ∧ ((([GK.int, GK.int, GK.ints, GK.ints, GK.ints] : List GK) = ([GK.int, GK.int, GK.ints, GK.ints, GK.ints] : List GK)) ∧ I1 [GV.int (iadd i1_0 (1 : Int)), GV.int (((i1_1 + 1) + 1) + 1), GV.ints (iapp l1_2 [(iadd (1 : Int) (k_1))]), GV.ints (iapp l1_3 [(isub (k_2) (180 : Int))]), GV.ints (iapp l1_4 [(iadd (isub (k_2) (180 : Int)) (k_3))])] ∧ μ1 [GV.int (iadd i1_0 (1 : Int)), GV.int (((i1_1 + 1) + 1) + 1), GV.ints (iapp l1_2 [(iadd (1 : Int) (k_1))]), GV.ints (iapp l1_3 [(isub (k_2) (180 : Int))]), GV.ints (iapp l1_4 [(iadd (isub (k_2) (180 : Int)) (k_3))])] < μ1 [GV.int i1_0, GV.int i1_1, GV.ints l1_2, GV.ints l1_3, GV.ints l1_4])))))))))))))))))))))))))))) ∧ ((ilt i1_0 m) = false → ((true = true) ∧ ((True) ∧ (True) ∧ True) ∧ (true = true) ∧ ((r1 ≤ 2000 ∧ 0 ≤ i1_1 ∧ i1_1 ≤ 1000000 ∧ -1000000 ≤ n ∧ n ≤ 1000000)) ∧ (∀ b_4 : Bool, ∀ q_5 : Int, (((n ≤ 0 → b_4 = false) ∧ i1_1 ≤ q_5 ∧ q_5 ≤ i1_1 + 1) → (((b_4) = true → ((true = true) ∧ ((True) ∧ (True) ∧ True) ∧ (true = true) ∧ ((r1 ≤ 2000 ∧ 0 ≤ (q_5) ∧ (q_5) ≤ 1000000)) ∧ (∀ k_6 : Int, ((pickP m k_6) → ((True) ∧ (true = true) ∧ ((True) ∧ True) ∧ (true = true) ∧ ((r1 ≤ 2000 ∧ 0 ≤ ((q_5) + 1) ∧ ((q_5) + 1) ≤ 1000000)) ∧ (∀ k_7 : Int, ((pickP (4 : Int) k_7) → ((true = true) ∧ ((True) ∧ (True) ∧ True) ∧ ((ieq (k_7) (0 : Int)) = true → ((true = true) ∧ ((true = true) ∧ (True) ∧ ((true = true) ∧ (True) ∧ ((true = true) ∧ (True) ∧ ((true = true) ∧ (True) ∧ ((true = true) ∧ (True) ∧ ((true = true) ∧ ((r1 ≤ 2000 ∧ 0 ≤ (((q_5) + 1) + 1) ∧ (((q_5) + 1) + 1) ≤ 1000000)) ∧ (∀ k_8 : Int, ((pickP (2 : Int) k_8) → ((true = true) ∧ (NLe 0 (k_8) ∧ NLt (k_8) (ilen [(0 : Int), (501 : Int)])) ∧ ((true = true) ∧ (True) ∧ ((NLe 0 (k_6) ∧ NLt (k_6) (ilen l1_2)) ∧ (NLt (k_6) (ilen l1_2)) ∧ (true = true) ∧ ((True) ∧ True) ∧ (True) ∧ L_spec_l20Arm_0 r2 l1_2 k_6 k_8 l1_3 l1_4 r1 q_5))))))))))))) ∧ ((ieq (k_7) (0 : Int)) = false → ((true = true) ∧ ((True) ∧ (True) ∧ True) ∧ ((ieq (k_7) (1 : Int)) = true → ((true = true) ∧ ((true = true) ∧ (True) ∧ ((true = true) ∧ (True) ∧ ((true = true) ∧ (True) ∧ ((true = true) ∧ (True) ∧ ((true = true) ∧ (True) ∧ ((true = true) ∧ (True) ∧ ((true = true) ∧ (NLe 0 (k_6) ∧ NLt (k_6) (ilen l1_4)) ∧ ((true = true) ∧ (NLt (k_6) (ilen l1_4)) ∧ ((true = true) ∧ (True) ∧ ((true = true) ∧ (True) ∧ ((true = true) ∧ (True) ∧ ((true = true) ∧ ((r1 ≤ 2000 ∧ 0 ≤ (((q_5) + 1) + 1) ∧ (((q_5) + 1) + 1) ≤ 1000000)) ∧ (∀ k_9 : Int, ((pickP (2 : Int) k_9) → ((true = true) ∧ (NLe 0 (k_9) ∧ NLt (k_9) (ilen [(-181 : Int), (iadd (geti l1_4 (k_6)) (1 : Int))])) ∧ ((true = true) ∧ (True) ∧ ((NLe 0 (k_6) ∧ NLt (k_6) (ilen l1_3)) ∧ (NLt (k_6) (ilen l1_3)) ∧ (true = true) ∧ ((True) ∧ True) ∧ (True) ∧ L_spec_l20Arm_1 r2 l1_2 l1_3 k_6 l1_4 k_9 r1 q_5))))))))))))))))))) ∧ ((ieq (k_7) (1 : Int)) = false → ((true = true) ∧ ((True) ∧ (True) ∧ True) ∧ ((ieq (k_7) (2 : Int)) = true → ((true = true) ∧ ((True) ∧ (True) ∧ True) ∧ (NLe 0 (1 : Int) ∧ NLe (1 : Int) (ilen l1_4)) ∧ (True) ∧ (True) ∧ (true = true) ∧ ((True) ∧ True) ∧ (True) ∧ L_spec_l20Arm_2 r2 l1_2 l1_3 l1_4 r1 q_5)) ∧ ((ieq (k_7) (2 : Int)) = false → (∃ (I2 : List GV → Prop) (μ2 : List GV → Nat), (((true = true) ∧ ((((ieq (k_7) (2 : Int)) : Bool) = (ieq (k_7) (2 : Int))) ∧ (((ieq (k_7) (2 : Int)) : Bool) = (ieq (k_7) (2 : Int))) ∧ (((ieq (k_7) (1 : Int)) : Bool) = (ieq (k_7) (1 : Int))) ∧ (((ieq (k_7) (1 : Int)) : Bool) = (ieq (k_7) (1 : Int))) ∧ (((ieq (k_7) (0 : Int)) : Bool) = (ieq (k_7) (0 : Int))) ∧ (((ieq (k_7) (0 : Int)) : Bool) = (ieq (k_7) (0 : Int))) ∧ (((k_7) : Int) = (k_7)) ∧ (true = true) ∧ (((k_6) : Int) = (k_6)) ∧ (((k_6) : Int) = (k_6)) ∧ (true = true) ∧ ((m : Int) = m) ∧ (((b_4) : Bool) = (b_4)) ∧ (true = true) ∧ ((n : Int) = n) ∧ ((i1_0 : Int) = i1_0) ∧ ((m : Int) = m) ∧ (((ilt i1_0 m) : Bool) = (ilt i1_0 m)) ∧ ((i1_0 : Int) = i1_0) ∧ ((True) ∧ (True) ∧ (True) ∧ True) ∧ (true = true) ∧ (true = true) ∧ (true = true) ∧ ((m : Int) = m) ∧ ((n : Int) = n) ∧ True) ∧ (((true = true) ∧ ((Cont.ints l1_2) = (Cont.ints l1_2))) ∧ ((true = true) ∧ (true = true) ∧ (true = true) ∧ True) ∧ (((r1 : Int) = r1) ∧ (((((q_5) + 1) + 1) : Int) = (((q_5) + 1) + 1)) ∧ True) ∧ ((true = true) ∧ ((Cont.ints l1_4) = (Cont.ints l1_4))) ∧ ((true = true) ∧ ((Cont.ints l1_3) = (Cont.ints l1_3))) ∧ ((True) ∧ (True) ∧ (True) ∧ True) ∧ True)) ∧ (([GK.ints] : List GK) = ([GK.ints] : List GK)) ∧ I2 [GV.ints l1_2]) ∧ (∀ l2_0 : List Int, I2 [GV.ints l2_0] → ((true = true) ∧ ((True) ∧ (True) ∧ (True) ∧ (True) ∧ True) ∧ ((ile (ilen l2_0) (4 : Int)) = true → ((true = true) ∧ ((True) ∧ (True) ∧ (True) ∧ True) ∧ (NLe (ilen l2_0) 1000000000 ∧ NLe (ilen [(5 : Int)]) 1000000000) ∧ (True) ∧ (True) ∧ ((true = true) ∧ ((((ieq (k_7) (2 : Int)) : Bool) = (ieq (k_7) (2 : Int))) ∧ (((ieq (k_7) (2 : Int)) : Bool) = (ieq (k_7) (2 : Int))) ∧ (((ieq (k_7) (1 : Int)) : Bool) = (ieq (k_7) (1 : Int))) ∧ (((ieq (k_7) (1 : Int)) : Bool) = (ieq (k_7) (1 : Int))) ∧ (((ieq (k_7) (0 : Int)) : Bool) = (ieq (k_7) (0 : Int))) ∧ (((ieq (k_7) (0 : Int)) : Bool) = (ieq (k_7) (0 : Int))) ∧ (((k_7) : Int) = (k_7)) ∧ (true = true) ∧ (((k_6) : Int) = (k_6)) ∧ (((k_6) : Int) = (k_6)) ∧ (true = true) ∧ ((m : Int) = m) ∧ (((b_4) : Bool) = (b_4)) ∧ (true = true) ∧ ((n : Int) = n) ∧ ((i1_0 : Int) = i1_0) ∧ ((m : Int) = m) ∧ (((ilt i1_0 m) : Bool) = (ilt i1_0 m)) ∧ ((i1_0 : Int) = i1_0) ∧ ((True) ∧ (True) ∧ (True) ∧ True) ∧ (true = true) ∧ (true = true) ∧ (true = true) ∧ ((m : Int) = m) ∧ ((n : Int) = n) ∧ True) ∧ (((true = true) ∧ ((Cont.ints (iapp l2_0 [(5 : Int)])) = (Cont.ints (iapp l2_0 [(5 : Int)])))) ∧ ((true = true) ∧ (true = true) ∧ (true = true) ∧ True) ∧ (((r1 : Int) = r1) ∧ (((((q_5) + 1) + 1) : Int) = (((q_5) + 1) + 1)) ∧ True) ∧ ((true = true) ∧ ((Cont.ints l1_4) = (Cont.ints l1_4))) ∧ ((true = true) ∧ ((Cont.ints l1_3) = (Cont.ints l1_3))) ∧ ((True) ∧ (True) ∧ (True) ∧ True) ∧ True)) ∧ ((([GK.ints] : List GK) = ([GK.ints] : List GK)) ∧ I2 [GV.ints (iapp l2_0 [(5 : Int)])] ∧ μ2 [GV.ints (iapp l2_0 [(5 : Int)])] < μ2 [GV.ints l2_0]))) ∧ ((ile (ilen l2_0) (4 : Int)) = false → ((true = true) ∧ ((True) ∧ True) ∧ (True) ∧ L_spec_l20Arm_3 r2 l2_0 l1_3 l1_4 r1 q_5)))))))))))))))))) ∧ ((b_4) = false → ((true = true) ∧ ((True) ∧ True) ∧ (True) ∧ L_spec_l20Arm_4 r2 l1_2 l1_3 l1_4 r1 q_5)))))))))) = (fun sg => ev sig_spec_l20Arm xs_spec_l20Arm Try.f58.ntmps (fun b => if b == 0 then [.v 8, .b 0, .b 7, .f 7 0 30, .f 7 1 30, .f 7 2 30] else if b == 3 then [.b 7, .f 7 0 30] else []) (codeOf Try.f58) 0 (initX (.box [.rdr r1, .int r2]) [.s (.int m), .s (.int n)]) (retX Try.f58.results.toList sg.kinds sg.post sg.ret sg.out)) (s_spec_l20Arm r1 r2 m n) := by kernel_rfl
set_option maxHeartbeats 4000000 in
theorem F_spec_l20Arm : FunX 58 g_spec_l20Arm := by
  refine fun_X (by kernel_rfl) Try.func58 rfl (by kernel_rfl) sig_spec_l20Arm_ok xs_spec_l20Arm_ok ?_
  intro bx avs sg h hn hl hlb
  unfold g_spec_l20Arm at h
  split at h
  · rename_i r1 r2 m n
    injection h with h; subst h
    refine ⟨by kernel_rfl, fun b => if b == 0 then [.v 8, .b 0, .b 7, .f 7 0 30, .f 7 1 30, .f 7 2 30] else if b == 3 then [.b 7, .f 7 0 30] else [], Eq.mp (V_spec_l20Arm r1 r2 m n) ?_⟩
    simp only [true_and, and_true, implies_true, and_self, forall_const, true_implies, lenA, lenL, SV.lenOK, Cont.lenOK, lenB, s_spec_l20Arm, L_spec_l20Arm_0, L_spec_l20Arm_1, L_spec_l20Arm_2, L_spec_l20Arm_3, L_spec_l20Arm_4] at hn hl hlb ⊢
    simp only [ilt_t, ilt_f, ile_t, ile_f, ieq_t, ieq_f, bnot_e, band_e, bite_and, bite_or, NLt_e, NLe_e, NNe_e, NIs_e, imax_e, imin_e, irem_e, Bool.not_eq_true', Bool.not_eq_false', Bool.and_eq_true, Bool.or_eq_true, Bool.or_eq_false_iff, Bool.and_eq_false_iff, Cont.pts.injEq, Cont.ints.injEq, Cont.bools.injEq, Cont.ptss.injEq, Cont.intss.injEq, Cont.boolss.injEq, true_and, and_true, implies_true, pickP]
    refine ⟨fun | [.int k, .int q, .ints x, .ints y, .ints z] => 0 ≤ k ∧ k ≤ m ∧ ilen x = k ∧ ilen y = k ∧ ilen z = k ∧ r2 ≤ q ∧ q ≤ r2 + 3 * k | _ => False, fun | .int k :: _ => (m - k).toNat | _ => 0, ⟨by omega, by omega, ilen_nil, ilen_nil, ilen_nil, by omega, by omega⟩, ?_⟩
    rintro k q x y z ⟨h1, h2, h3, h4, h5, h6, h7⟩
    have e1 : iadd k 1 = k + 1 := iadd_e (by omega) (by omega)
    rw [e1]
    refine ⟨fun hk => ?_, fun hk => ?_⟩
    · exact ⟨by omega, fun k1 hk1 => ⟨⟨by omega, by rw [ilen_one]; omega⟩, by omega, fun k2 hk2 => ⟨⟨by omega, by rw [ilen_one]; omega⟩, by omega, fun k3 hk3 => ⟨⟨by omega, by rw [ilen_one]; omega⟩, ⟨by omega, by omega, by rw [ilen_app, ilen_one]; omega, by rw [ilen_app, ilen_one]; omega, by rw [ilen_app, ilen_one]; omega, by omega, by omega⟩, by show (m - (k + 1)).toNat < (m - k).toNat; omega⟩⟩⟩⟩
    · have dz : ilen (idrop z 1) ≤ ilen z := by unfold ilen idrop; simp
      have two : ∀ a b : Int, ilen [a, b] = 2 := fun a b => by simp [ilen]
      refine ⟨by omega, fun b q5 hq => ⟨fun _ => ⟨by omega, fun k6 hk6 => ⟨by omega, fun k7 hk7 => ⟨fun _ => ⟨by omega, fun k8 hk8 => ⟨by rw [two]; omega, by omega, by omega, _, _, _, _, ⟨by rw [ilen_seti]; omega, by omega, by omega, by omega, by omega⟩, ⟨rfl, rfl, rfl⟩, rfl⟩⟩, fun _ => ⟨fun _ => ⟨by omega, by omega, by omega, fun k9 hk9 => ⟨by rw [two]; omega, by omega, by omega, _, _, _, _, ⟨by omega, by rw [ilen_seti]; omega, by omega, by omega, by omega⟩, ⟨rfl, rfl, rfl⟩, rfl⟩⟩, fun _ => ⟨fun _ => ⟨by omega, _, _, _, _, ⟨by omega, by omega, by omega, by omega, by omega⟩, ⟨rfl, rfl, rfl⟩, rfl⟩, fun _ => ?_⟩⟩⟩⟩⟩, fun _ => ⟨_, _, _, _, ⟨by omega, by omega, by omega, by omega, by omega⟩, ⟨rfl, rfl, rfl⟩, rfl⟩⟩⟩
      refine ⟨fun | [.ints l] => ilen l ≤ 5 | _ => False, fun | [.ints l] => (5 - ilen l).toNat | _ => 0, by show ilen x ≤ 5; omega, ?_⟩
      intro l hl5
      have hl5' : ilen l ≤ 5 := hl5
      exact ⟨fun h => ⟨⟨by omega, by rw [ilen_one]; omega⟩, by show ilen (iapp l [5]) ≤ 5; rw [ilen_app, ilen_one]; omega, by show (5 - ilen (iapp l [5])).toNat < (5 - ilen l).toNat; rw [ilen_app, ilen_one]; omega⟩, fun h => ⟨_, _, _, _, ⟨by omega, by omega, by omega, by omega, by omega⟩, ⟨rfl, rfl, rfl⟩, rfl⟩⟩
  · cases h
def s_spec_l20Step (r1 : Int) (r2 : Int) : SgX := ⟨r1 ≤ 2000 ∧ 0 ≤ r2 ∧ r2 ≤ 100000, [.int], (fun | [.int s] => 0 ≤ s ∧ s ≤ 361 | _ => False), (fun | [.int s] => [.s (.int (s))] | _ => []), (fun | [.int s] => .box [.rdr r1, .int (r2 + 1)] | _ => .box [])⟩
def g_spec_l20Step : Bx → List AV → Option SgX
  | .box [.rdr r1, .int r2], [] => some (s_spec_l20Step r1 r2)
  | _, _ => none
def sig_spec_l20Step : FuncId → List AV → Option Sg := sigL []
def xs_spec_l20Step : XS := ⟨xsigL [(64, g_spec_l20Rd_pick)], ysigL []⟩
theorem sig_spec_l20Step_ok : SigOK sig_spec_l20Step := sigL_nil
theorem xs_spec_l20Step_ok : XSigOK xs_spec_l20Step := ⟨xsigL_cons F_spec_l20Rd_pick xsigL_nil, ysigL_nil⟩
def L_spec_l20Step_0 (k_10 : Int) (r1 : Int) (r2 : Int) : Prop := ∃ s : Int, ((0 ≤ s ∧ s ≤ 361) ∧ ((((geti [(5 : Int), (10 : Int), (15 : Int), (30 : Int), (0 : Int), (361 : Int), (1 : Int)] (geti [(0 : Int), (0 : Int), (1 : Int), (1 : Int), (2 : Int), (3 : Int), (4 : Int), (5 : Int), (6 : Int)] (k_10))) : Int) = (s)) ∧ True) ∧ ((true = true) ∧ (true = true) ∧ ((r1 : Int) = r1) ∧ (((r2 + 1) : Int) = (r2 + 1)) ∧ True))
theorem V_spec_l20Step (r1 : Int) (r2 : Int) : ((true = true) ∧ ((True) ∧ True) ∧ (true = true) ∧ ((True) ∧ (True) ∧ (True) ∧ True) ∧ (true = true) ∧ ((r1 ≤ 2000 ∧ 0 ≤ r2 ∧ r2 ≤ 1000000)) ∧ (∀ k_10 : Int, ((pickP (9 : Int) k_10) → ((NLe 0 (k_10) ∧ NLt (k_10) (ilen [(0 : Int), (0 : Int), (1 : Int), (1 : Int), (2 : Int), (3 : Int), (4 : Int), (5 : Int), (6 : Int)])) ∧ (NLt (k_10) (ilen [(0 : Int), (0 : Int), (1 : Int), (1 : Int), (2 : Int), (3 : Int), (4 : Int), (5 : Int), (6 : Int)])) ∧ (NLe 0 (geti [(0 : Int), (0 : Int), (1 : Int), (1 : Int), (2 : Int), (3 : Int), (4 : Int), (5 : Int), (6 : Int)] (k_10)) ∧ NLt (geti [(0 : Int), (0 : Int), (1 : Int), (1 : Int), (2 : Int), (3 : Int), (4 : Int), (5 : Int), (6 : Int)] (k_10)) (ilen [(5 : Int), (10 : Int), (15 : Int), (30 : Int), (0 : Int), (361 : Int), (1 : Int)])) ∧ (NLt (geti [(0 : Int), (0 : Int), (1 : Int), (1 : Int), (2 : Int), (3 : Int), (4 : Int), (5 : Int), (6 : Int)] (k_10)) (ilen [(5 : Int), (10 : Int), (15 : Int), (30 : Int), (0 : Int), (361 : Int), (1 : Int)])) ∧ (True) ∧ L_spec_l20Step_0 k_10 r1 r2)))) = (fun sg => ev sig_spec_l20Step xs_spec_l20Step Try.f60.ntmps (fun b => []) (codeOf Try.f60) 0 (initX (.box [.rdr r1, .int r2]) []) (retX Try.f60.results.toList sg.kinds sg.post sg.ret sg.out)) (s_spec_l20Step r1 r2) := by kernel_rfl
set_option maxHeartbeats 4000000 in
theorem F_spec_l20Step : FunX 60 g_spec_l20Step := by
  refine fun_X (by kernel_rfl) Try.func60 rfl (by kernel_rfl) sig_spec_l20Step_ok xs_spec_l20Step_ok ?_
  intro bx avs sg h hn hl hlb
  unfold g_spec_l20Step at h
  split at h
  · rename_i r1 r2
    injection h with h; subst h
    refine ⟨by kernel_rfl, fun b => [], Eq.mp (V_spec_l20Step r1 r2) ?_⟩
    simp only [true_and, and_true, implies_true, and_self, forall_const, true_implies, lenA, lenL, SV.lenOK, Cont.lenOK, lenB, s_spec_l20Step, L_spec_l20Step_0] at hn hl hlb ⊢
    try simp only [ilt_t, ilt_f, ile_t, ile_f, ieq_t, ieq_f, bnot_e, band_e, bite_and, bite_or, NLt_e, NLe_e, NNe_e, NIs_e, imax_e, imin_e, irem_e, Bool.not_eq_true', Bool.not_eq_false', Bool.and_eq_true, Bool.or_eq_true, Bool.or_eq_false_iff, Bool.and_eq_false_iff, Cont.pts.injEq, Cont.ints.injEq, Cont.bools.injEq, Cont.ptss.injEq, Cont.intss.injEq, Cont.boolss.injEq, true_and, and_true, implies_true, pickP, iadd_u, isub_u, imul_u, ineg_u, ilen_cons, ilen_nil, geti_cons, geti_nil, exists_and_left, exists_and_right, exists_eq_left, exists_eq_left', exists_eq_right, exists_eq_right'] at hn ⊢
    repeat' (first | (intro _) | (refine ⟨_, ?_, rfl, rfl⟩) | (apply And.intro) | omega | split)
    all_goals (first | (simp_all; done) | (simp_all; omega))
  · cases h
def s_spec_DrawGridSize (n : Int) : SgY := ⟨n ≤ 1048576, [.ints, .ints, .ints, .int], (fun | [.ints x, .ints y, .ints z, .int s] => ilen x ≤ 10 ∧ ilen y ≤ 10 ∧ ilen z ≤ 10 ∧ 0 ≤ s ∧ s ≤ 361 | _ => False), (fun | [.ints x, .ints y, .ints z, .int s] => [.agg [.view (.ints (x)), .view (.ints (y)), .view (.ints (z))], .s (.int (s))] | _ => [])⟩
def g_spec_DrawGridSize : List AV → Option SgY
  | [.s (.rdr n)] => some (s_spec_DrawGridSize n)
  | _ => none
def sig_spec_DrawGridSize : FuncId → List AV → Option Sg := sigL [(57, g_spec_l20Open)]
def xs_spec_DrawGridSize : XS := ⟨xsigL [(58, g_spec_l20Arm), (59, g_spec_l20Rd_odd), (60, g_spec_l20Step)], ysigL []⟩
theorem sig_spec_DrawGridSize_ok : SigOK sig_spec_DrawGridSize := sigL_cons F_spec_l20Open sigL_nil
theorem xs_spec_DrawGridSize_ok : XSigOK xs_spec_DrawGridSize := ⟨xsigL_cons F_spec_l20Arm (xsigL_cons F_spec_l20Rd_odd (xsigL_cons F_spec_l20Step xsigL_nil)), ysigL_nil⟩
def L_spec_DrawGridSize_0 (x_17 : List Int) (y_18 : List Int) (z_19 : List Int) (s_21 : Int) : Prop := ∃ x : List Int, ∃ y : List Int, ∃ z : List Int, ∃ s : Int, ((ilen x ≤ 10 ∧ ilen y ≤ 10 ∧ ilen z ≤ 10 ∧ 0 ≤ s ∧ s ≤ 361) ∧ ((((Cont.ints (x_17)) = (Cont.ints (x))) ∧ ((Cont.ints (y_18)) = (Cont.ints (y))) ∧ ((Cont.ints (z_19)) = (Cont.ints (z))) ∧ True) ∧ (((s_21) : Int) = (s)) ∧ True))
def L_spec_DrawGridSize_1 (x_17 : List Int) (y_18 : List Int) (z_19 : List Int) (s_22 : Int) : Prop := ∃ x : List Int, ∃ y : List Int, ∃ z : List Int, ∃ s : Int, ((ilen x ≤ 10 ∧ ilen y ≤ 10 ∧ ilen z ≤ 10 ∧ 0 ≤ s ∧ s ≤ 361) ∧ ((((Cont.ints (x_17)) = (Cont.ints (x))) ∧ ((Cont.ints (y_18)) = (Cont.ints (y))) ∧ ((Cont.ints (z_19)) = (Cont.ints (z))) ∧ True) ∧ (((s_22) : Int) = (s)) ∧ True))
def L_spec_DrawGridSize_2 (x_17 : List Int) (y_18 : List Int) (z_19 : List Int) (s_23 : Int) : Prop := ∃ x : List Int, ∃ y : List Int, ∃ z : List Int, ∃ s : Int, ((ilen x ≤ 10 ∧ ilen y ≤ 10 ∧ ilen z ≤ 10 ∧ 0 ≤ s ∧ s ≤ 361) ∧ ((((Cont.ints (x_17)) = (Cont.ints (x))) ∧ ((Cont.ints (y_18)) = (Cont.ints (y))) ∧ ((Cont.ints (z_19)) = (Cont.ints (z))) ∧ True) ∧ (((s_23) : Int) = (s)) ∧ True))
def L_spec_DrawGridSize_3 (x_11 : List Int) (y_12 : List Int) (z_13 : List Int) (s_24 : Int) : Prop := ∃ x : List Int, ∃ y : List Int, ∃ z : List Int, ∃ s : Int, ((ilen x ≤ 10 ∧ ilen y ≤ 10 ∧ ilen z ≤ 10 ∧ 0 ≤ s ∧ s ≤ 361) ∧ ((((Cont.ints (x_11)) = (Cont.ints (x))) ∧ ((Cont.ints (y_12)) = (Cont.ints (y))) ∧ ((Cont.ints (z_13)) = (Cont.ints (z))) ∧ True) ∧ (((s_24) : Int) = (s)) ∧ True))
def L_spec_DrawGridSize_4 (x_11 : List Int) (y_12 : List Int) (z_13 : List Int) (s_25 : Int) : Prop := ∃ x : List Int, ∃ y : List Int, ∃ z : List Int, ∃ s : Int, ((ilen x ≤ 10 ∧ ilen y ≤ 10 ∧ ilen z ≤ 10 ∧ 0 ≤ s ∧ s ≤ 361) ∧ ((((Cont.ints (x_11)) = (Cont.ints (x))) ∧ ((Cont.ints (y_12)) = (Cont.ints (y))) ∧ ((Cont.ints (z_13)) = (Cont.ints (z))) ∧ True) ∧ (((s_25) : Int) = (s)) ∧ True))
def L_spec_DrawGridSize_5 (x_11 : List Int) (y_12 : List Int) (z_13 : List Int) (s_26 : Int) : Prop := ∃ x : List Int, ∃ y : List Int, ∃ z : List Int, ∃ s : Int, ((ilen x ≤ 10 ∧ ilen y ≤ 10 ∧ ilen z ≤ 10 ∧ 0 ≤ s ∧ s ≤ 361) ∧ ((((Cont.ints (x_11)) = (Cont.ints (x))) ∧ ((Cont.ints (y_12)) = (Cont.ints (y))) ∧ ((Cont.ints (z_13)) = (Cont.ints (z))) ∧ True) ∧ (((s_26) : Int) = (s)) ∧ True))
theorem V_spec_DrawGridSize (n : Int) : ((true = true) ∧ ((True) ∧ (True) ∧ True) ∧ (true = true) ∧ ((True) ∧ ((n ≤ 1048576)) ∧ (True) ∧ True) ∧ (true = true) ∧ ((True) ∧ True) ∧ (true = true) ∧ (((if n ≤ 2000 then n else 2000) ≤ 2000 ∧ 0 ≤ ((0 : Int)) ∧ ((0 : Int)) ≤ 100000 ∧ 1 ≤ (2 : Int) ∧ (2 : Int) ≤ 4 ∧ -1000000 ≤ (9 : Int) ∧ (9 : Int) ≤ 1000000)) ∧ (∀ x_11 : List Int, ∀ y_12 : List Int, ∀ z_13 : List Int, ∀ q_14 : Int, ((ilen x_11 ≤ 10 ∧ ilen y_12 ≤ 10 ∧ ilen z_13 ≤ 10 ∧ ((0 : Int)) ≤ q_14 ∧ q_14 ≤ ((0 : Int)) + 100) → ((True) ∧ (True) ∧ (true = true) ∧ ((True) ∧ True) ∧ (true = true) ∧ (((if n ≤ 2000 then n else 2000) ≤ 2000 ∧ 0 ≤ (q_14) ∧ (q_14) ≤ 1000000 ∧ -1000000 ≤ (9 : Int) ∧ (9 : Int) ≤ 1000000)) ∧ (∀ b_15 : Bool, ∀ q_16 : Int, ((((9 : Int) ≤ 0 → b_15 = false) ∧ (q_14) ≤ q_16 ∧ q_16 ≤ (q_14) + 1) → (((b_15) = true → ((true = true) ∧ ((True) ∧ True) ∧ (true = true) ∧ (((if n ≤ 2000 then n else 2000) ≤ 2000 ∧ 0 ≤ (q_16) ∧ (q_16) ≤ 100000 ∧ 1 ≤ (3 : Int) ∧ (3 : Int) ≤ 4 ∧ -1000000 ≤ (0 : Int) ∧ (0 : Int) ≤ 1000000)) ∧ (∀ x_17 : List Int, ∀ y_18 : List Int, ∀ z_19 : List Int, ∀ q_20 : Int, ((ilen x_17 ≤ 10 ∧ ilen y_18 ≤ 10 ∧ ilen z_19 ≤ 10 ∧ (q_16) ≤ q_20 ∧ q_20 ≤ (q_16) + 100) → ((True) ∧ (true = true) ∧ (((true = true) ∧ ((True) ∧ (((true = true) ∧ ((True) ∧ (((true = true) ∧ ((true = true) ∧ (((if n ≤ 2000 then n else 2000) ≤ 2000 ∧ 0 ≤ (q_20) ∧ (q_20) ≤ 100000)) ∧ (∀ s_23 : Int, ((0 ≤ s_23 ∧ s_23 ≤ 361) → ((((true = true) ∧ ((True) ∧ (((true = true) ∧ ((True) ∧ (L_spec_DrawGridSize_2 x_17 y_18 z_19 s_23))) ∧ True))) ∧ True)))))) ∧ True))) ∧ True))) ∧ ((true = true) ∧ ((True) ∧ (((true = true) ∧ ((True) ∧ (((true = true) ∧ ((true = true) ∧ (((if n ≤ 2000 then n else 2000) ≤ 2000 ∧ 0 ≤ (q_20) ∧ (q_20) ≤ 100000)) ∧ (∀ s_22 : Int, ((0 ≤ s_22 ∧ s_22 ≤ 361) → ((((true = true) ∧ ((True) ∧ (((true = true) ∧ ((True) ∧ (L_spec_DrawGridSize_1 x_17 y_18 z_19 s_22))) ∧ True))) ∧ True)))))) ∧ True))) ∧ ((true = true) ∧ ((true = true) ∧ (((if n ≤ 2000 then n else 2000) ≤ 2000 ∧ 0 ≤ (q_20) ∧ (q_20) ≤ 100000)) ∧ (∀ s_21 : Int, ((0 ≤ s_21 ∧ s_21 ≤ 361) → ((((true = true) ∧ ((True) ∧ (((true = true) ∧ ((True) ∧ (((true = true) ∧ ((True) ∧ (L_spec_DrawGridSize_0 x_17 y_18 z_19 s_21))) ∧ True))) ∧ True))) ∧ True)))))) ∧ True))) ∧ True)))))) ∧ ((b_15) = false → ((true = true) ∧ (((true = true) ∧ ((True) ∧ (((true = true) ∧ ((True) ∧ (((true = true) ∧ ((true = true) ∧ (((if n ≤ 2000 then n else 2000) ≤ 2000 ∧ 0 ≤ (q_16) ∧ (q_16) ≤ 100000)) ∧ (∀ s_26 : Int, ((0 ≤ s_26 ∧ s_26 ≤ 361) → ((((true = true) ∧ ((True) ∧ (((true = true) ∧ ((True) ∧ (L_spec_DrawGridSize_5 x_11 y_12 z_13 s_26))) ∧ True))) ∧ True)))))) ∧ True))) ∧ True))) ∧ ((true = true) ∧ ((True) ∧ (((true = true) ∧ ((True) ∧ (((true = true) ∧ ((true = true) ∧ (((if n ≤ 2000 then n else 2000) ≤ 2000 ∧ 0 ≤ (q_16) ∧ (q_16) ≤ 100000)) ∧ (∀ s_25 : Int, ((0 ≤ s_25 ∧ s_25 ≤ 361) → ((((true = true) ∧ ((True) ∧ (((true = true) ∧ ((True) ∧ (L_spec_DrawGridSize_4 x_11 y_12 z_13 s_25))) ∧ True))) ∧ True)))))) ∧ True))) ∧ ((true = true) ∧ ((true = true) ∧ (((if n ≤ 2000 then n else 2000) ≤ 2000 ∧ 0 ≤ (q_16) ∧ (q_16) ≤ 100000)) ∧ (∀ s_24 : Int, ((0 ≤ s_24 ∧ s_24 ≤ 361) → ((((true = true) ∧ ((True) ∧ (((true = true) ∧ ((True) ∧ (((true = true) ∧ ((True) ∧ (L_spec_DrawGridSize_3 x_11 y_12 z_13 s_24))) ∧ True))) ∧ True))) ∧ True)))))) ∧ True))) ∧ True)))))))))) = (fun sg => ev sig_spec_DrawGridSize xs_spec_DrawGridSize Try.f26.ntmps (fun b => []) (codeOf Try.f26) 0 (initS [.s (.rdr n)]) (retY Try.f26.results.toList sg.kinds sg.post sg.ret)) (s_spec_DrawGridSize n) := by kernel_rfl
set_option maxHeartbeats 400000 in
theorem F_spec_DrawGridSize : FunY 26 g_spec_DrawGridSize := by
  refine fun_Y (by kernel_rfl) Try.func26 rfl (by kernel_rfl) sig_spec_DrawGridSize_ok xs_spec_DrawGridSize_ok ?_
  intro avs sg h hn hl
  unfold g_spec_DrawGridSize at h
  split at h
  · rename_i n
    injection h with h; subst h
    refine ⟨by kernel_rfl, fun b => [], Eq.mp (V_spec_DrawGridSize n) ?_⟩
    simp only [true_and, and_true, implies_true, and_self, forall_const, true_implies, lenA, lenL, SV.lenOK, Cont.lenOK, s_spec_DrawGridSize, L_spec_DrawGridSize_0, L_spec_DrawGridSize_1, L_spec_DrawGridSize_2, L_spec_DrawGridSize_3, L_spec_DrawGridSize_4, L_spec_DrawGridSize_5] at hn hl ⊢
    simp only [ilt_t, ilt_f, ile_t, ile_f, ieq_t, ieq_f, bnot_e, band_e, bite_and, bite_or, NLt_e, NLe_e, NNe_e, NIs_e, imax_e, imin_e, irem_e, Bool.not_eq_true', Bool.not_eq_false', Bool.and_eq_true, Bool.or_eq_true, Bool.or_eq_false_iff, Bool.and_eq_false_iff, Cont.pts.injEq, Cont.ints.injEq, Cont.bools.injEq, Cont.ptss.injEq, Cont.intss.injEq, Cont.boolss.injEq, true_and, and_true, implies_true]
    refine ⟨hn, by split <;> omega, fun x y z q hp => ⟨by split <;> omega, fun b q2 hq => ⟨fun _ => ⟨by split <;> omega, fun x2 y2 z2 q3 hp2 => ⟨by split <;> omega, fun s hs => ⟨_, _, _, _, by omega, ⟨rfl, rfl, rfl⟩, rfl⟩⟩⟩, fun _ => ⟨by split <;> omega, fun s hs => ⟨_, _, _, _, by omega, ⟨rfl, rfl, rfl⟩, rfl⟩⟩⟩⟩⟩
  · cases h
theorem inB_eq (n lo hi : Int) : inB n lo hi = (ile lo n && ile n hi) := by
  unfold inB ile
  by_cases h1 : lo ≤ n <;> by_cases h2 : n ≤ hi <;> simp [h1, h2]
def g_impl_within : List AV → Option Sg
  | [.s (.int n), .s (.int lo), .s (.int hi)] => some ⟨True, [.s (.bool (inB n lo hi))]⟩
  | _ => none
def sig_impl_within : FuncId → List AV → Option Sg := sigL []
def xs_impl_within : XS := ⟨xsigL [], ysigL []⟩
theorem sig_impl_within_ok : SigOK sig_impl_within := sigL_nil
theorem xs_impl_within_ok : XSigOK xs_impl_within := ⟨xsigL_nil, ysigL_nil⟩
theorem V_impl_within (n : Int) (lo : Int) (hi : Int) : ((true = true) ∧ ((True) ∧ True) ∧ (true = true) ∧ ((True) ∧ (True) ∧ (True) ∧ (True) ∧ (NIs (ile lo n) true → True) ∧ (NIs (ile lo n) true → True) ∧ (NIs (ile lo n) true → True) ∧ (True) ∧ (True) ∧ True) ∧ (((bite (ile lo n) (ile n hi) false) : Bool) = (inB n lo hi)) ∧ True) = ev sig_impl_within xs_impl_within Try.f56.ntmps (fun b => []) (codeOf Try.f56) 0 (initS [.s (.int n), .s (.int lo), .s (.int hi)]) (retK Try.f56.results.toList [.s (.bool (inB n lo hi))]) := by kernel_rfl
set_option maxHeartbeats 400000 in
theorem F_impl_within : FunOK 56 g_impl_within := by
  refine fun_F (by kernel_rfl) Try.func56 rfl (by kernel_rfl) sig_impl_within_ok xs_impl_within_ok ?_
  intro avs sg h hn hl
  unfold g_impl_within at h
  split at h
  · rename_i n lo hi
    injection h with h; subst h
    refine ⟨by kernel_rfl, fun b => [], Eq.mp (V_impl_within n lo hi) ?_⟩
    simp only [true_and, and_true, implies_true, and_self, forall_const, true_implies, lenA, lenL, SV.lenOK, Cont.lenOK] at hn hl ⊢
    simp only [bite_and, inB_eq]
  · cases h
def armE (a1 a2 a3 : List Int) (k : Int) : Bool := inB (geti a1 k) 1 500 && inB (geti a2 k) (-180) 180 && inB (geti a3 k) (geti a2 k) 180
def armB (a1 a2 a3 : List Int) : Bool := inB (ilen a1) 1 4 && decide (ilen a2 = ilen a1) && decide (ilen a3 = ilen a1) && allN (ilen a1) (armE a1 a2 a3)
def crW (a1 a2 b1 b2 c1 c2 : Int) : Int := isub (imul (isub b1 a1) (isub c2 a2)) (imul (isub b2 a2) (isub c1 a1))
def cr (l : List Pt) (i j k : Int) : Int := crW (getx l i) (gety l i) (getx l j) (gety l j) (getx l k) (gety l k)
def nx (l : List Pt) (i : Int) : Int := (i + 1).tmod (ilen l)
def convE (l : List Pt) (i j : Int) : Bool := decide (j = i ∨ j = nx l i ∨ 0 < cr l i (nx l i) j)
def convB (l : List Pt) : Bool := inB (ilen l) 3 8 && allB l && allN (ilen l) fun i => allN (ilen l) fun j => convE l i j
theorem nx_in {l : List Pt} {i : Int} (h0 : 0 ≤ i) (h1 : i < ilen l) : 0 ≤ nx l i ∧ nx l i < ilen l ∧ ((i + 1 < ilen l ∧ nx l i = i + 1) ∨ (i + 1 = ilen l ∧ nx l i = 0)) := by
  have e : nx l i = (i + 1) % ilen l := Int.tmod_eq_emod_of_nonneg (by omega)
  rcases Int.lt_or_le (i + 1) (ilen l) with h | h
  · rw [e, Int.emod_eq_of_lt (by omega) h]; omega
  · have h2 : i + 1 = ilen l := by omega
    rw [e, h2, Int.emod_self]; omega
theorem allN_up {f : Int → Bool} {k : Int} (h : ∀ j, 0 ≤ j → j < k → f j = true) (hk : f k = true) : ∀ j, 0 ≤ j → j < k + 1 → f j = true := by
  intro j h0 h1
  rcases Int.lt_or_le j k with h2 | h2
  · exact h j h0 h2
  · rw [show j = k by omega]; exact hk
theorem upTo {P : Int → Prop} {k : Int} (h : ∀ j, 0 ≤ j → j < k → P j) (hk : P k) : ∀ j, 0 ≤ j → j < k + 1 → P j := by
  intro j h0 h1
  rcases Int.lt_or_le j k with h2 | h2
  · exact h j h0 h2
  · rw [show j = k by omega]; exact hk
theorem iadd_1 {k n : Int} (h0 : 0 ≤ k) (h1 : k < n) (h2 : n ≤ 9223372036854775807) : iadd k 1 = k + 1 := iadd_e (by omega) (by omega)
def g_impl_ArmValid : List AV → Option Sg
  | [.agg [.view (.ints a1), .view (.ints a2), .view (.ints a3)]] => some ⟨True, [.s (.bool (armB a1 a2 a3))]⟩
  | _ => none
def sig_impl_ArmValid : FuncId → List AV → Option Sg := sigL [(56, g_impl_within)]
def xs_impl_ArmValid : XS := ⟨xsigL [], ysigL []⟩
theorem sig_impl_ArmValid_ok : SigOK sig_impl_ArmValid := sigL_cons F_impl_within sigL_nil
theorem xs_impl_ArmValid_ok : XSigOK xs_impl_ArmValid := ⟨xsigL_nil, ysigL_nil⟩
theorem V_impl_ArmValid (a1 : List Int) (a2 : List Int) (a3 : List Int) : ((true = true) ∧ ((True) ∧ (True) ∧ True) ∧ (true = true) ∧ ((True) ∧ (True) ∧ (True) ∧ (True) ∧ True) ∧ (true = true) ∧ ((True) ∧ ((True)) ∧ (True) ∧ (True) ∧ (NIs (bnot (inB (ilen a1) (1 : Int) (4 : Int))) false → True) ∧ (NIs (bnot (inB (ilen a1) (1 : Int) (4 : Int))) false → True) ∧ (NIs (bnot (inB (ilen a1) (1 : Int) (4 : Int))) false → True) ∧ (NIs (bnot (inB (ilen a1) (1 : Int) (4 : Int))) false → True) ∧ (NIs (bnot (inB (ilen a1) (1 : Int) (4 : Int))) false → True) ∧ (True) ∧ (True) ∧ (NIs (bite (bnot (inB (ilen a1) (1 : Int) (4 : Int))) true (bnot (ieq (ilen a2) (ilen a1)))) false → True) ∧ (NIs (bite (bnot (inB (ilen a1) (1 : Int) (4 : Int))) true (bnot (ieq (ilen a2) (ilen a1)))) false → True) ∧ (NIs (bite (bnot (inB (ilen a1) (1 : Int) (4 : Int))) true (bnot (ieq (ilen a2) (ilen a1)))) false → True) ∧ (NIs (bite (bnot (inB (ilen a1) (1 : Int) (4 : Int))) true (bnot (ieq (ilen a2) (ilen a1)))) false → True) ∧ (NIs (bite (bnot (inB (ilen a1) (1 : Int) (4 : Int))) true (bnot (ieq (ilen a2) (ilen a1)))) false → True) ∧ (True) ∧ True) ∧ ((bite (bite (bnot (inB (ilen a1) (1 : Int) (4 : Int))) true (bnot (ieq (ilen a2) (ilen a1)))) true (bnot (ieq (ilen a3) (ilen a1)))) = true → ((true = true) ∧ ((True) ∧ True) ∧ ((false : Bool) = (armB a1 a2 a3)) ∧ True)) ∧ ((bite (bite (bnot (inB (ilen a1) (1 : Int) (4 : Int))) true (bnot (ieq (ilen a2) (ilen a1)))) true (bnot (ieq (ilen a3) (ilen a1)))) = false → ((true = true) ∧ ((True) ∧ (True) ∧ True) ∧ ∃ (I1 : List GV → Prop) (μ1 : List GV → Nat), (((true = true) ∧ (((false : Bool) = false) ∧ (((0 : Int) : Int) = (0 : Int)) ∧ (((ilen a1) : Int) = (ilen a1)) ∧ (((ilen a1) : Int) = (ilen a1)) ∧ (((inB (ilen a1) (1 : Int) (4 : Int)) : Bool) = (inB (ilen a1) (1 : Int) (4 : Int))) ∧ (((bnot (inB (ilen a1) (1 : Int) (4 : Int))) : Bool) = (bnot (inB (ilen a1) (1 : Int) (4 : Int)))) ∧ (((bnot (inB (ilen a1) (1 : Int) (4 : Int))) : Bool) = (bnot (inB (ilen a1) (1 : Int) (4 : Int)))) ∧ (((bite (bnot (inB (ilen a1) (1 : Int) (4 : Int))) true (bnot (ieq (ilen a2) (ilen a1)))) : Bool) = (bite (bnot (inB (ilen a1) (1 : Int) (4 : Int))) true (bnot (ieq (ilen a2) (ilen a1))))) ∧ (((bite (bnot (inB (ilen a1) (1 : Int) (4 : Int))) true (bnot (ieq (ilen a2) (ilen a1)))) : Bool) = (bite (bnot (inB (ilen a1) (1 : Int) (4 : Int))) true (bnot (ieq (ilen a2) (ilen a1))))) ∧ (((bite (bite (bnot (inB (ilen a1) (1 : Int) (4 : Int))) true (bnot (ieq (ilen a2) (ilen a1)))) true (bnot (ieq (ilen a3) (ilen a1)))) : Bool) = (bite (bite (bnot (inB (ilen a1) (1 : Int) (4 : Int))) true (bnot (ieq (ilen a2) (ilen a1)))) true (bnot (ieq (ilen a3) (ilen a1))))) ∧ (true = true) ∧ ((Cont.ints a1) = (Cont.ints a1)) ∧ (((ilen a1) : Int) = (ilen a1)) ∧ (((ilen a1) : Int) = (ilen a1)) ∧ (true = true) ∧ (((Cont.ints a1) = (Cont.ints a1)) ∧ ((Cont.ints a2) = (Cont.ints a2)) ∧ ((Cont.ints a3) = (Cont.ints a3)) ∧ True) ∧ True) ∧ ((((Cont.ints a1) = (Cont.ints a1)) ∧ ((Cont.ints a2) = (Cont.ints a2)) ∧ ((Cont.ints a3) = (Cont.ints a3)) ∧ True) ∧ True)) ∧ (([GK.int, GK.bool] : List GK) = ([GK.int, GK.bool] : List GK)) ∧ I1 [GV.int (0 : Int), GV.bool false]) ∧ (∀ i1_0 : Int, ∀ b1_1 : Bool, I1 [GV.int i1_0, GV.bool b1_1] → ((true = true) ∧ ((True) ∧ True) ∧ ((ilt i1_0 (ilen a1)) = true → ((true = true) ∧ ((True) ∧ (True) ∧ True) ∧ (true = true) ∧ ((True) ∧ (True) ∧ (True) ∧ (NLe 0 i1_0 ∧ NLt i1_0 (ilen a1)) ∧ (True) ∧ ((True)) ∧ (True) ∧ (True) ∧ (NIs (bnot (inB (geti a1 i1_0) (1 : Int) (500 : Int))) false → True) ∧ (NIs (bnot (inB (geti a1 i1_0) (1 : Int) (500 : Int))) false → True) ∧ (NIs (bnot (inB (geti a1 i1_0) (1 : Int) (500 : Int))) false → True) ∧ (NIs (bnot (inB (geti a1 i1_0) (1 : Int) (500 : Int))) false → (NLe 0 i1_0 ∧ NLt i1_0 (ilen a2))) ∧ (NIs (bnot (inB (geti a1 i1_0) (1 : Int) (500 : Int))) false → True) ∧ (NIs (bnot (inB (geti a1 i1_0) (1 : Int) (500 : Int))) false → (True)) ∧ (NIs (bnot (inB (geti a1 i1_0) (1 : Int) (500 : Int))) false → True) ∧ (True) ∧ (True) ∧ (NIs (bite (bnot (inB (geti a1 i1_0) (1 : Int) (500 : Int))) true (bnot (inB (geti a2 i1_0) (-180 : Int) (180 : Int)))) false → True) ∧ (NIs (bite (bnot (inB (geti a1 i1_0) (1 : Int) (500 : Int))) true (bnot (inB (geti a2 i1_0) (-180 : Int) (180 : Int)))) false → True) ∧ (NIs (bite (bnot (inB (geti a1 i1_0) (1 : Int) (500 : Int))) true (bnot (inB (geti a2 i1_0) (-180 : Int) (180 : Int)))) false → True) ∧ (NIs (bite (bnot (inB (geti a1 i1_0) (1 : Int) (500 : Int))) true (bnot (inB (geti a2 i1_0) (-180 : Int) (180 : Int)))) false → (NLe 0 i1_0 ∧ NLt i1_0 (ilen a3))) ∧ (NIs (bite (bnot (inB (geti a1 i1_0) (1 : Int) (500 : Int))) true (bnot (inB (geti a2 i1_0) (-180 : Int) (180 : Int)))) false → True) ∧ (NIs (bite (bnot (inB (geti a1 i1_0) (1 : Int) (500 : Int))) true (bnot (inB (geti a2 i1_0) (-180 : Int) (180 : Int)))) false → True) ∧ (NIs (bite (bnot (inB (geti a1 i1_0) (1 : Int) (500 : Int))) true (bnot (inB (geti a2 i1_0) (-180 : Int) (180 : Int)))) false → True) ∧ (NIs (bite (bnot (inB (geti a1 i1_0) (1 : Int) (500 : Int))) true (bnot (inB (geti a2 i1_0) (-180 : Int) (180 : Int)))) false → True) ∧ (NIs (bite (bnot (inB (geti a1 i1_0) (1 : Int) (500 : Int))) true (bnot (inB (geti a2 i1_0) (-180 : Int) (180 : Int)))) false → (NLe 0 i1_0 ∧ NLt i1_0 (ilen a2))) ∧ (NIs (bite (bnot (inB (geti a1 i1_0) (1 : Int) (500 : Int))) true (bnot (inB (geti a2 i1_0) (-180 : Int) (180 : Int)))) false → True) ∧ (NIs (bite (bnot (inB (geti a1 i1_0) (1 : Int) (500 : Int))) true (bnot (inB (geti a2 i1_0) (-180 : Int) (180 : Int)))) false → (True)) ∧ (NIs (bite (bnot (inB (geti a1 i1_0) (1 : Int) (500 : Int))) true (bnot (inB (geti a2 i1_0) (-180 : Int) (180 : Int)))) false → True) ∧ (True) ∧ True) ∧ ((bite (bite (bnot (inB (geti a1 i1_0) (1 : Int) (500 : Int))) true (bnot (inB (geti a2 i1_0) (-180 : Int) (180 : Int)))) true (bnot (inB (geti a3 i1_0) (geti a2 i1_0) (180 : Int)))) = true → ((true = true) ∧ ((True) ∧ True) ∧ ((false : Bool) = (armB a1 a2 a3)) ∧ True)) ∧ ((bite (bite (bnot (inB (geti a1 i1_0) (1 : Int) (500 : Int))) true (bnot (inB (geti a2 i1_0) (-180 : Int) (180 : Int)))) true (bnot (inB (geti a3 i1_0) (geti a2 i1_0) (180 : Int)))) = false → ((true = true) ∧ ((True) ∧ (True) ∧ True) ∧ ((true = true) ∧ (((b1_1 : Bool) = b1_1) ∧ (((iadd i1_0 (1 : Int)) : Int) = (iadd i1_0 (1 : Int))) ∧ (((ilen a1) : Int) = (ilen a1)) ∧ (((ilen a1) : Int) = (ilen a1)) ∧ (((inB (ilen a1) (1 : Int) (4 : Int)) : Bool) = (inB (ilen a1) (1 : Int) (4 : Int))) ∧ (((bnot (inB (ilen a1) (1 : Int) (4 : Int))) : Bool) = (bnot (inB (ilen a1) (1 : Int) (4 : Int)))) ∧ (((bnot (inB (ilen a1) (1 : Int) (4 : Int))) : Bool) = (bnot (inB (ilen a1) (1 : Int) (4 : Int)))) ∧ (((bite (bnot (inB (ilen a1) (1 : Int) (4 : Int))) true (bnot (ieq (ilen a2) (ilen a1)))) : Bool) = (bite (bnot (inB (ilen a1) (1 : Int) (4 : Int))) true (bnot (ieq (ilen a2) (ilen a1))))) ∧ (((bite (bnot (inB (ilen a1) (1 : Int) (4 : Int))) true (bnot (ieq (ilen a2) (ilen a1)))) : Bool) = (bite (bnot (inB (ilen a1) (1 : Int) (4 : Int))) true (bnot (ieq (ilen a2) (ilen a1))))) ∧ (((bite (bite (bnot (inB (ilen a1) (1 : Int) (4 : Int))) true (bnot (ieq (ilen a2) (ilen a1)))) true (bnot (ieq (ilen a3) (ilen a1)))) : Bool) = (bite (bite (bnot (inB (ilen a1) (1 : Int) (4 : Int))) true (bnot (ieq (ilen a2) (ilen a1)))) true (bnot (ieq (ilen a3) (ilen a1))))) ∧ (true = true) ∧ ((Cont.ints a1) = (Cont.ints a1)) ∧ (((ilen a1) : Int) = (ilen a1)) ∧ (((ilen a1) : Int) = (ilen a1)) ∧ (true = true) ∧ (((Cont.ints a1) = (Cont.ints a1)) ∧ ((Cont.ints a2) = (Cont.ints a2)) ∧ ((Cont.ints a3) = (Cont.ints a3)) ∧ True) ∧ True) ∧ ((((Cont.ints a1) = (Cont.ints a1)) ∧ ((Cont.ints a2) = (Cont.ints a2)) ∧ ((Cont.ints a3) = (Cont.ints a3)) ∧ True) ∧ True)) ∧ ((([GK.int, GK.bool] : List GK) = ([GK.int, GK.bool] : List GK)) ∧ I1 [GV.int (iadd i1_0 (1 : Int)), GV.bool b1_1] ∧ μ1 [GV.int (iadd i1_0 (1 : Int)), GV.bool b1_1] < μ1 [GV.int i1_0, GV.bool b1_1]))))) ∧ ((ilt i1_0 (ilen a1)) = false → ((true = true) ∧ ((True) ∧ True) ∧ ((true : Bool) = (armB a1 a2 a3)) ∧ True))))))) = ev sig_impl_ArmValid xs_impl_ArmValid Try.f55.ntmps (fun b => if b == 0 then [.v 26, .v 2] else []) (codeOf Try.f55) 0 (initS [.agg [.view (.ints a1), .view (.ints a2), .view (.ints a3)]]) (retK Try.f55.results.toList [.s (.bool (armB a1 a2 a3))]) := by kernel_rfl
set_option maxHeartbeats 400000 in
theorem F_impl_ArmValid : FunOK 55 g_impl_ArmValid := by
  refine fun_F (by kernel_rfl) Try.func55 rfl (by kernel_rfl) sig_impl_ArmValid_ok xs_impl_ArmValid_ok ?_
  intro avs sg h hn hl
  unfold g_impl_ArmValid at h
  split at h
  · rename_i a1 a2 a3
    injection h with h; subst h
    refine ⟨by kernel_rfl, fun b => if b == 0 then [.v 26, .v 2] else [], Eq.mp (V_impl_ArmValid a1 a2 a3) ?_⟩
    simp only [true_and, and_true, implies_true, and_self, forall_const, true_implies, lenA, lenL, SV.lenOK, Cont.lenOK] at hn hl ⊢
    have h0 := ilen_0 a1
    simp only [ilt_t, ilt_f, ile_t, ile_f, ieq_t, ieq_f, bnot_e, band_e, bite_and, bite_or, NLt_e, NLe_e, NNe_e, NIs_e, imax_e, imin_e, irem_e, Bool.not_eq_true', Bool.not_eq_false', Bool.and_eq_true, Bool.or_eq_true, Bool.or_eq_false_iff, Bool.and_eq_false_iff, Cont.pts.injEq, Cont.ints.injEq, Cont.bools.injEq, Cont.ptss.injEq, Cont.intss.injEq, Cont.boolss.injEq, true_and, and_true, implies_true]
    refine ⟨fun h => ?_, fun h => ?_⟩
    · unfold armB
      rcases h with (h | h) | h <;> simp [h]
    · obtain ⟨⟨c1, c2⟩, c3⟩ := h
      refine ⟨fun | .int k :: _ => 0 ≤ k ∧ k ≤ ilen a1 ∧ (∀ j, 0 ≤ j → j < k → armE a1 a2 a3 j = true) | _ => False, fun | .int k :: _ => (ilen a1 - k).toNat | _ => 0, ?_, ?_⟩
      · exact ⟨Int.le_refl 0, h0, fun j h0 h1 => absurd h1 (by omega)⟩
      · rintro k _ ⟨hk0, hk1, hk⟩
        simp only [ilt_t, ilt_f, ile_t, ile_f, ieq_t, ieq_f, bnot_e, band_e, bite_and, bite_or, NLt_e, NLe_e, NNe_e, NIs_e, imax_e, imin_e, irem_e, Bool.not_eq_true', Bool.not_eq_false', Bool.and_eq_true, Bool.or_eq_true, Bool.or_eq_false_iff, Bool.and_eq_false_iff, Cont.pts.injEq, Cont.ints.injEq, Cont.bools.injEq, Cont.ptss.injEq, Cont.intss.injEq, Cont.boolss.injEq, true_and, and_true, implies_true]
        refine ⟨fun hc => ⟨⟨⟨hk0, hc⟩, fun _ => ⟨hk0, by omega⟩, fun _ => ⟨hk0, by omega⟩, fun _ => ⟨hk0, by omega⟩⟩, fun hv => ?_, fun hv => ?_⟩, fun hc => ?_⟩
        · have hE : armE a1 a2 a3 k = false := by unfold armE; rcases hv with (hv | hv) | hv <;> simp [hv]
          unfold armB; rw [allN_no k hk0 hc hE]; simp
        · have hE : armE a1 a2 a3 k = true := by unfold armE; rw [hv.1.1, hv.1.2, hv.2]; rfl
          rw [iadd_1 hk0 hc hl.1]
          exact ⟨⟨by omega, by omega, upTo hk hE⟩, by omega⟩
        · unfold armB; rw [allN_mk fun j h0 h1 => hk j h0 (by omega), c1]; simp [c2, c3]
  · cases h
def gsB (a1 a2 a3 : List Int) (s : Int) : Bool := armB a1 a2 a3 && decide (ilen a1 = 2) && inB s 1 360
def gsN (a2 a3 : List Int) (s i : Int) : Int := iadd (iquo (isub (geti a3 i) (geti a2 i)) s) 1
def gsK (a1 a2 a3 : List Int) (s i : Int) : Int := if gsB a1 a2 a3 s = true ∧ gsN a2 a3 s 0 ≤ 20 ∧ gsN a2 a3 s 1 ≤ 20 then gsN a2 a3 s i else 0
theorem armB_len {a1 a2 a3 : List Int} (h : armB a1 a2 a3 = true) : ilen a2 = ilen a1 ∧ ilen a3 = ilen a1 := by
  unfold armB at h
  simp only [Bool.and_eq_true, decide_eq_true_eq] at h
  exact ⟨h.1.1.2, h.1.2⟩
def g_impl_GridSize : List AV → Option Sg
  | [.agg [.view (.ints a1), .view (.ints a2), .view (.ints a3)], .s (.int s)] => some ⟨True, [.s (.int (gsK a1 a2 a3 s 0)), .s (.int (gsK a1 a2 a3 s 1))]⟩
  | _ => none
def sig_impl_GridSize : FuncId → List AV → Option Sg := sigL [(55, g_impl_ArmValid), (56, g_impl_within)]
def xs_impl_GridSize : XS := ⟨xsigL [], ysigL []⟩
theorem sig_impl_GridSize_ok : SigOK sig_impl_GridSize := sigL_cons F_impl_ArmValid (sigL_cons F_impl_within sigL_nil)
theorem xs_impl_GridSize_ok : XSigOK xs_impl_GridSize := ⟨xsigL_nil, ysigL_nil⟩
theorem V_impl_GridSize (a1 : List Int) (a2 : List Int) (a3 : List Int) (s : Int) : ((true = true) ∧ ((True) ∧ (True) ∧ (True) ∧ True) ∧ (true = true) ∧ ((True) ∧ ((True)) ∧ (True) ∧ (True) ∧ (NIs (bnot (armB a1 a2 a3)) false → True) ∧ (NIs (bnot (armB a1 a2 a3)) false → True) ∧ (NIs (bnot (armB a1 a2 a3)) false → True) ∧ (NIs (bnot (armB a1 a2 a3)) false → True) ∧ (True) ∧ (True) ∧ (NIs (bite (bnot (armB a1 a2 a3)) true (bnot (ieq (ilen a1) (2 : Int)))) false → True) ∧ (NIs (bite (bnot (armB a1 a2 a3)) true (bnot (ieq (ilen a1) (2 : Int)))) false → (True)) ∧ (NIs (bite (bnot (armB a1 a2 a3)) true (bnot (ieq (ilen a1) (2 : Int)))) false → True) ∧ (True) ∧ True) ∧ ((bite (bite (bnot (armB a1 a2 a3)) true (bnot (ieq (ilen a1) (2 : Int)))) true (bnot (inB s (1 : Int) (360 : Int)))) = true → ((true = true) ∧ ((True) ∧ (True) ∧ True) ∧ (((0 : Int) : Int) = (gsK a1 a2 a3 s 0)) ∧ (((0 : Int) : Int) = (gsK a1 a2 a3 s 1)) ∧ True)) ∧ ((bite (bite (bnot (armB a1 a2 a3)) true (bnot (ieq (ilen a1) (2 : Int)))) true (bnot (inB s (1 : Int) (360 : Int)))) = false → ((true = true) ∧ ((True) ∧ (True) ∧ (NLe 0 (0 : Int) ∧ NLt (0 : Int) (ilen a3)) ∧ (True) ∧ (True) ∧ (True) ∧ (NLe 0 (0 : Int) ∧ NLt (0 : Int) (ilen a2)) ∧ (True) ∧ (True) ∧ (True) ∧ (NNe s 0) ∧ (True) ∧ (True) ∧ True) ∧ (true = true) ∧ ((True) ∧ (True) ∧ (NLe 0 (1 : Int) ∧ NLt (1 : Int) (ilen a3)) ∧ (True) ∧ (True) ∧ (True) ∧ (NLe 0 (1 : Int) ∧ NLt (1 : Int) (ilen a2)) ∧ (True) ∧ (True) ∧ (True) ∧ (NNe s 0) ∧ (True) ∧ (True) ∧ True) ∧ (true = true) ∧ ((True) ∧ (True) ∧ (True) ∧ (NIs (ilt (20 : Int) (iadd (iquo (isub (geti a3 (0 : Int)) (geti a2 (0 : Int))) s) (1 : Int))) false → True) ∧ (NIs (ilt (20 : Int) (iadd (iquo (isub (geti a3 (0 : Int)) (geti a2 (0 : Int))) s) (1 : Int))) false → True) ∧ (True) ∧ True) ∧ ((bite (ilt (20 : Int) (iadd (iquo (isub (geti a3 (0 : Int)) (geti a2 (0 : Int))) s) (1 : Int))) true (ilt (20 : Int) (iadd (iquo (isub (geti a3 (1 : Int)) (geti a2 (1 : Int))) s) (1 : Int)))) = true → ((true = true) ∧ ((True) ∧ (True) ∧ True) ∧ (((0 : Int) : Int) = (gsK a1 a2 a3 s 0)) ∧ (((0 : Int) : Int) = (gsK a1 a2 a3 s 1)) ∧ True)) ∧ ((bite (ilt (20 : Int) (iadd (iquo (isub (geti a3 (0 : Int)) (geti a2 (0 : Int))) s) (1 : Int))) true (ilt (20 : Int) (iadd (iquo (isub (geti a3 (1 : Int)) (geti a2 (1 : Int))) s) (1 : Int)))) = false → ((true = true) ∧ ((True) ∧ (True) ∧ (True) ∧ (True) ∧ True) ∧ (((iadd (iquo (isub (geti a3 (0 : Int)) (geti a2 (0 : Int))) s) (1 : Int)) : Int) = (gsK a1 a2 a3 s 0)) ∧ (((iadd (iquo (isub (geti a3 (1 : Int)) (geti a2 (1 : Int))) s) (1 : Int)) : Int) = (gsK a1 a2 a3 s 1)) ∧ True))))) = ev sig_impl_GridSize xs_impl_GridSize Try.f24.ntmps (fun b => []) (codeOf Try.f24) 0 (initS [.agg [.view (.ints a1), .view (.ints a2), .view (.ints a3)], .s (.int s)]) (retK Try.f24.results.toList [.s (.int (gsK a1 a2 a3 s 0)), .s (.int (gsK a1 a2 a3 s 1))]) := by kernel_rfl
set_option maxHeartbeats 400000 in
theorem F_impl_GridSize : FunOK 24 g_impl_GridSize := by
  refine fun_F (by kernel_rfl) Try.func24 rfl (by kernel_rfl) sig_impl_GridSize_ok xs_impl_GridSize_ok ?_
  intro avs sg h hn hl
  unfold g_impl_GridSize at h
  split at h
  · rename_i a1 a2 a3 s
    injection h with h; subst h
    refine ⟨by kernel_rfl, fun b => [], Eq.mp (V_impl_GridSize a1 a2 a3 s) ?_⟩
    simp only [true_and, and_true, implies_true, and_self, forall_const, true_implies, lenA, lenL, SV.lenOK, Cont.lenOK] at hn hl ⊢
    simp only [ilt_t, ilt_f, ile_t, ile_f, ieq_t, ieq_f, bnot_e, band_e, bite_and, bite_or, NLt_e, NLe_e, NNe_e, NIs_e, imax_e, imin_e, irem_e, Bool.not_eq_true', Bool.not_eq_false', Bool.and_eq_true, Bool.or_eq_true, Bool.or_eq_false_iff, Bool.and_eq_false_iff, Cont.pts.injEq, Cont.ints.injEq, Cont.bools.injEq, Cont.ptss.injEq, Cont.intss.injEq, Cont.boolss.injEq, true_and, and_true, implies_true]
    refine ⟨fun h => ?_, fun h => ?_⟩
    · have hB : gsB a1 a2 a3 s = false := by unfold gsB; rcases h with (h | h) | h <;> simp [h]
      unfold gsK; simp [hB]
    · obtain ⟨⟨h1, h2⟩, h3⟩ := h
      obtain ⟨e1, e2⟩ := armB_len h1
      have hB : gsB a1 a2 a3 s = true := by unfold gsB; rw [h1, h3]; simp [h2]
      have hs := inB_true h3
      refine ⟨by omega, by omega, fun h => ?_, fun h => ?_⟩
      · have : ¬ (gsB a1 a2 a3 s = true ∧ gsN a2 a3 s 0 ≤ 20 ∧ gsN a2 a3 s 1 ≤ 20) := by rintro ⟨_, g1, g2⟩; unfold gsN at g1 g2; omega
        unfold gsK; rw [if_neg this, if_neg this]; exact ⟨rfl, rfl⟩
      · have : gsB a1 a2 a3 s = true ∧ gsN a2 a3 s 0 ≤ 20 ∧ gsN a2 a3 s 1 ≤ 20 := ⟨hB, h.1, h.2⟩
        unfold gsK; rw [if_pos this, if_pos this]; exact ⟨rfl, rfl⟩
  · cases h
def g_spec_l1In : List AV → Option Sg
  | [.s (.int n), .s (.int lo), .s (.int hi)] => some ⟨True, [.s (.bool (inB n lo hi))]⟩
  | _ => none
def sig_spec_l1In : FuncId → List AV → Option Sg := sigL []
def xs_spec_l1In : XS := ⟨xsigL [], ysigL []⟩
theorem sig_spec_l1In_ok : SigOK sig_spec_l1In := sigL_nil
theorem xs_spec_l1In_ok : XSigOK xs_spec_l1In := ⟨xsigL_nil, ysigL_nil⟩
theorem V_spec_l1In (n : Int) (lo : Int) (hi : Int) : ((true = true) ∧ ((True) ∧ True) ∧ (true = true) ∧ ((True) ∧ (True) ∧ (True) ∧ (True) ∧ (NIs (ile lo n) true → True) ∧ (NIs (ile lo n) true → True) ∧ (NIs (ile lo n) true → True) ∧ (True) ∧ (True) ∧ True) ∧ (((bite (ile lo n) (ile n hi) false) : Bool) = (inB n lo hi)) ∧ True) = ev sig_spec_l1In xs_spec_l1In Try.f65.ntmps (fun b => []) (codeOf Try.f65) 0 (initS [.s (.int n), .s (.int lo), .s (.int hi)]) (retK Try.f65.results.toList [.s (.bool (inB n lo hi))]) := by kernel_rfl
set_option maxHeartbeats 400000 in
theorem F_spec_l1In : FunOK 65 g_spec_l1In := by
  refine fun_F (by kernel_rfl) Try.func65 rfl (by kernel_rfl) sig_spec_l1In_ok xs_spec_l1In_ok ?_
  intro avs sg h hn hl
  unfold g_spec_l1In at h
  split at h
  · rename_i n lo hi
    injection h with h; subst h
    refine ⟨by kernel_rfl, fun b => [], Eq.mp (V_spec_l1In n lo hi) ?_⟩
    simp only [true_and, and_true, implies_true, and_self, forall_const, true_implies, lenA, lenL, SV.lenOK, Cont.lenOK] at hn hl ⊢
    simp only [bite_and, inB_eq]
  · cases h
def g_spec_ArmValid : List AV → Option Sg
  | [.agg [.view (.ints a1), .view (.ints a2), .view (.ints a3)]] => some ⟨True, [.s (.bool (armB a1 a2 a3))]⟩
  | _ => none
def sig_spec_ArmValid : FuncId → List AV → Option Sg := sigL [(65, g_spec_l1In)]
def xs_spec_ArmValid : XS := ⟨xsigL [], ysigL []⟩
theorem sig_spec_ArmValid_ok : SigOK sig_spec_ArmValid := sigL_cons F_spec_l1In sigL_nil
theorem xs_spec_ArmValid_ok : XSigOK xs_spec_ArmValid := ⟨xsigL_nil, ysigL_nil⟩
theorem V_spec_ArmValid (a1 : List Int) (a2 : List Int) (a3 : List Int) : ((true = true) ∧ ((True) ∧ (True) ∧ True) ∧ (true = true) ∧ ((True) ∧ (True) ∧ (True) ∧ (True) ∧ True) ∧ (true = true) ∧ ((True) ∧ ((True)) ∧ (True) ∧ (True) ∧ (NIs (bnot (inB (ilen a1) (1 : Int) (4 : Int))) false → True) ∧ (NIs (bnot (inB (ilen a1) (1 : Int) (4 : Int))) false → True) ∧ (NIs (bnot (inB (ilen a1) (1 : Int) (4 : Int))) false → True) ∧ (NIs (bnot (inB (ilen a1) (1 : Int) (4 : Int))) false → True) ∧ (NIs (bnot (inB (ilen a1) (1 : Int) (4 : Int))) false → True) ∧ (True) ∧ (True) ∧ (NIs (bite (bnot (inB (ilen a1) (1 : Int) (4 : Int))) true (bnot (ieq (ilen a2) (ilen a1)))) false → True) ∧ (NIs (bite (bnot (inB (ilen a1) (1 : Int) (4 : Int))) true (bnot (ieq (ilen a2) (ilen a1)))) false → True) ∧ (NIs (bite (bnot (inB (ilen a1) (1 : Int) (4 : Int))) true (bnot (ieq (ilen a2) (ilen a1)))) false → True) ∧ (NIs (bite (bnot (inB (ilen a1) (1 : Int) (4 : Int))) true (bnot (ieq (ilen a2) (ilen a1)))) false → True) ∧ (NIs (bite (bnot (inB (ilen a1) (1 : Int) (4 : Int))) true (bnot (ieq (ilen a2) (ilen a1)))) false → True) ∧ (True) ∧ True) ∧ ((bite (bite (bnot (inB (ilen a1) (1 : Int) (4 : Int))) true (bnot (ieq (ilen a2) (ilen a1)))) true (bnot (ieq (ilen a3) (ilen a1)))) = true → ((true = true) ∧ ((True) ∧ True) ∧ ((false : Bool) = (armB a1 a2 a3)) ∧ True)) ∧ ((bite (bite (bnot (inB (ilen a1) (1 : Int) (4 : Int))) true (bnot (ieq (ilen a2) (ilen a1)))) true (bnot (ieq (ilen a3) (ilen a1)))) = false → ((true = true) ∧ ((True) ∧ True) ∧ ∃ (I1 : List GV → Prop) (μ1 : List GV → Nat), (((true = true) ∧ (((false : Bool) = false) ∧ (((0 : Int) : Int) = (0 : Int)) ∧ (((ilen a1) : Int) = (ilen a1)) ∧ (((inB (ilen a1) (1 : Int) (4 : Int)) : Bool) = (inB (ilen a1) (1 : Int) (4 : Int))) ∧ (((bnot (inB (ilen a1) (1 : Int) (4 : Int))) : Bool) = (bnot (inB (ilen a1) (1 : Int) (4 : Int)))) ∧ (((bnot (inB (ilen a1) (1 : Int) (4 : Int))) : Bool) = (bnot (inB (ilen a1) (1 : Int) (4 : Int)))) ∧ (((bite (bnot (inB (ilen a1) (1 : Int) (4 : Int))) true (bnot (ieq (ilen a2) (ilen a1)))) : Bool) = (bite (bnot (inB (ilen a1) (1 : Int) (4 : Int))) true (bnot (ieq (ilen a2) (ilen a1))))) ∧ (((bite (bnot (inB (ilen a1) (1 : Int) (4 : Int))) true (bnot (ieq (ilen a2) (ilen a1)))) : Bool) = (bite (bnot (inB (ilen a1) (1 : Int) (4 : Int))) true (bnot (ieq (ilen a2) (ilen a1))))) ∧ (((bite (bite (bnot (inB (ilen a1) (1 : Int) (4 : Int))) true (bnot (ieq (ilen a2) (ilen a1)))) true (bnot (ieq (ilen a3) (ilen a1)))) : Bool) = (bite (bite (bnot (inB (ilen a1) (1 : Int) (4 : Int))) true (bnot (ieq (ilen a2) (ilen a1)))) true (bnot (ieq (ilen a3) (ilen a1))))) ∧ (true = true) ∧ ((Cont.ints a1) = (Cont.ints a1)) ∧ (((ilen a1) : Int) = (ilen a1)) ∧ (((ilen a1) : Int) = (ilen a1)) ∧ (true = true) ∧ (((Cont.ints a1) = (Cont.ints a1)) ∧ ((Cont.ints a2) = (Cont.ints a2)) ∧ ((Cont.ints a3) = (Cont.ints a3)) ∧ True) ∧ True) ∧ ((((Cont.ints a1) = (Cont.ints a1)) ∧ ((Cont.ints a2) = (Cont.ints a2)) ∧ ((Cont.ints a3) = (Cont.ints a3)) ∧ True) ∧ True)) ∧ (([GK.int, GK.bool] : List GK) = ([GK.int, GK.bool] : List GK)) ∧ I1 [GV.int (0 : Int), GV.bool false]) ∧ (∀ i1_0 : Int, ∀ b1_1 : Bool, I1 [GV.int i1_0, GV.bool b1_1] → ((true = true) ∧ ((True) ∧ (True) ∧ (True) ∧ True) ∧ ((ilt i1_0 (ilen a1)) = true → ((true = true) ∧ ((True) ∧ (True) ∧ (True) ∧ (NLe 0 i1_0 ∧ NLt i1_0 (ilen a1)) ∧ (True) ∧ ((True)) ∧ (True) ∧ (True) ∧ (NIs (bnot (inB (geti a1 i1_0) (1 : Int) (500 : Int))) false → True) ∧ (NIs (bnot (inB (geti a1 i1_0) (1 : Int) (500 : Int))) false → True) ∧ (NIs (bnot (inB (geti a1 i1_0) (1 : Int) (500 : Int))) false → True) ∧ (NIs (bnot (inB (geti a1 i1_0) (1 : Int) (500 : Int))) false → (NLe 0 i1_0 ∧ NLt i1_0 (ilen a2))) ∧ (NIs (bnot (inB (geti a1 i1_0) (1 : Int) (500 : Int))) false → True) ∧ (NIs (bnot (inB (geti a1 i1_0) (1 : Int) (500 : Int))) false → (True)) ∧ (NIs (bnot (inB (geti a1 i1_0) (1 : Int) (500 : Int))) false → True) ∧ (True) ∧ (True) ∧ (NIs (bite (bnot (inB (geti a1 i1_0) (1 : Int) (500 : Int))) true (bnot (inB (geti a2 i1_0) (-180 : Int) (180 : Int)))) false → True) ∧ (NIs (bite (bnot (inB (geti a1 i1_0) (1 : Int) (500 : Int))) true (bnot (inB (geti a2 i1_0) (-180 : Int) (180 : Int)))) false → True) ∧ (NIs (bite (bnot (inB (geti a1 i1_0) (1 : Int) (500 : Int))) true (bnot (inB (geti a2 i1_0) (-180 : Int) (180 : Int)))) false → True) ∧ (NIs (bite (bnot (inB (geti a1 i1_0) (1 : Int) (500 : Int))) true (bnot (inB (geti a2 i1_0) (-180 : Int) (180 : Int)))) false → (NLe 0 i1_0 ∧ NLt i1_0 (ilen a3))) ∧ (NIs (bite (bnot (inB (geti a1 i1_0) (1 : Int) (500 : Int))) true (bnot (inB (geti a2 i1_0) (-180 : Int) (180 : Int)))) false → True) ∧ (NIs (bite (bnot (inB (geti a1 i1_0) (1 : Int) (500 : Int))) true (bnot (inB (geti a2 i1_0) (-180 : Int) (180 : Int)))) false → True) ∧ (NIs (bite (bnot (inB (geti a1 i1_0) (1 : Int) (500 : Int))) true (bnot (inB (geti a2 i1_0) (-180 : Int) (180 : Int)))) false → True) ∧ (NIs (bite (bnot (inB (geti a1 i1_0) (1 : Int) (500 : Int))) true (bnot (inB (geti a2 i1_0) (-180 : Int) (180 : Int)))) false → True) ∧ (NIs (bite (bnot (inB (geti a1 i1_0) (1 : Int) (500 : Int))) true (bnot (inB (geti a2 i1_0) (-180 : Int) (180 : Int)))) false → (NLe 0 i1_0 ∧ NLt i1_0 (ilen a2))) ∧ (NIs (bite (bnot (inB (geti a1 i1_0) (1 : Int) (500 : Int))) true (bnot (inB (geti a2 i1_0) (-180 : Int) (180 : Int)))) false → True) ∧ (NIs (bite (bnot (inB (geti a1 i1_0) (1 : Int) (500 : Int))) true (bnot (inB (geti a2 i1_0) (-180 : Int) (180 : Int)))) false → (True)) ∧ (NIs (bite (bnot (inB (geti a1 i1_0) (1 : Int) (500 : Int))) true (bnot (inB (geti a2 i1_0) (-180 : Int) (180 : Int)))) false → True) ∧ (True) ∧ True) ∧ ((bite (bite (bnot (inB (geti a1 i1_0) (1 : Int) (500 : Int))) true (bnot (inB (geti a2 i1_0) (-180 : Int) (180 : Int)))) true (bnot (inB (geti a3 i1_0) (geti a2 i1_0) (180 : Int)))) = true → ((true = true) ∧ ((True) ∧ True) ∧ ((false : Bool) = (armB a1 a2 a3)) ∧ True)) ∧ ((bite (bite (bnot (inB (geti a1 i1_0) (1 : Int) (500 : Int))) true (bnot (inB (geti a2 i1_0) (-180 : Int) (180 : Int)))) true (bnot (inB (geti a3 i1_0) (geti a2 i1_0) (180 : Int)))) = false → ((true = true) ∧ ((True) ∧ (True) ∧ (True) ∧ True) ∧ ((true = true) ∧ (((b1_1 : Bool) = b1_1) ∧ (((iadd i1_0 (1 : Int)) : Int) = (iadd i1_0 (1 : Int))) ∧ (((ilen a1) : Int) = (ilen a1)) ∧ (((inB (ilen a1) (1 : Int) (4 : Int)) : Bool) = (inB (ilen a1) (1 : Int) (4 : Int))) ∧ (((bnot (inB (ilen a1) (1 : Int) (4 : Int))) : Bool) = (bnot (inB (ilen a1) (1 : Int) (4 : Int)))) ∧ (((bnot (inB (ilen a1) (1 : Int) (4 : Int))) : Bool) = (bnot (inB (ilen a1) (1 : Int) (4 : Int)))) ∧ (((bite (bnot (inB (ilen a1) (1 : Int) (4 : Int))) true (bnot (ieq (ilen a2) (ilen a1)))) : Bool) = (bite (bnot (inB (ilen a1) (1 : Int) (4 : Int))) true (bnot (ieq (ilen a2) (ilen a1))))) ∧ (((bite (bnot (inB (ilen a1) (1 : Int) (4 : Int))) true (bnot (ieq (ilen a2) (ilen a1)))) : Bool) = (bite (bnot (inB (ilen a1) (1 : Int) (4 : Int))) true (bnot (ieq (ilen a2) (ilen a1))))) ∧ (((bite (bite (bnot (inB (ilen a1) (1 : Int) (4 : Int))) true (bnot (ieq (ilen a2) (ilen a1)))) true (bnot (ieq (ilen a3) (ilen a1)))) : Bool) = (bite (bite (bnot (inB (ilen a1) (1 : Int) (4 : Int))) true (bnot (ieq (ilen a2) (ilen a1)))) true (bnot (ieq (ilen a3) (ilen a1))))) ∧ (true = true) ∧ ((Cont.ints a1) = (Cont.ints a1)) ∧ (((ilen a1) : Int) = (ilen a1)) ∧ (((ilen a1) : Int) = (ilen a1)) ∧ (true = true) ∧ (((Cont.ints a1) = (Cont.ints a1)) ∧ ((Cont.ints a2) = (Cont.ints a2)) ∧ ((Cont.ints a3) = (Cont.ints a3)) ∧ True) ∧ True) ∧ ((((Cont.ints a1) = (Cont.ints a1)) ∧ ((Cont.ints a2) = (Cont.ints a2)) ∧ ((Cont.ints a3) = (Cont.ints a3)) ∧ True) ∧ True)) ∧ ((([GK.int, GK.bool] : List GK) = ([GK.int, GK.bool] : List GK)) ∧ I1 [GV.int (iadd i1_0 (1 : Int)), GV.bool b1_1] ∧ μ1 [GV.int (iadd i1_0 (1 : Int)), GV.bool b1_1] < μ1 [GV.int i1_0, GV.bool b1_1]))))) ∧ ((ilt i1_0 (ilen a1)) = false → ((true = true) ∧ ((True) ∧ True) ∧ ((true : Bool) = (armB a1 a2 a3)) ∧ True))))))) = ev sig_spec_ArmValid xs_spec_ArmValid Try.f77.ntmps (fun b => if b == 0 then [.v 4, .v 2] else []) (codeOf Try.f77) 0 (initS [.agg [.view (.ints a1), .view (.ints a2), .view (.ints a3)]]) (retK Try.f77.results.toList [.s (.bool (armB a1 a2 a3))]) := by kernel_rfl
set_option maxHeartbeats 400000 in
theorem F_spec_ArmValid : FunOK 77 g_spec_ArmValid := by
  refine fun_F (by kernel_rfl) Try.func77 rfl (by kernel_rfl) sig_spec_ArmValid_ok xs_spec_ArmValid_ok ?_
  intro avs sg h hn hl
  unfold g_spec_ArmValid at h
  split at h
  · rename_i a1 a2 a3
    injection h with h; subst h
    refine ⟨by kernel_rfl, fun b => if b == 0 then [.v 4, .v 2] else [], Eq.mp (V_spec_ArmValid a1 a2 a3) ?_⟩
    simp only [true_and, and_true, implies_true, and_self, forall_const, true_implies, lenA, lenL, SV.lenOK, Cont.lenOK] at hn hl ⊢
    have h0 := ilen_0 a1
    simp only [ilt_t, ilt_f, ile_t, ile_f, ieq_t, ieq_f, bnot_e, band_e, bite_and, bite_or, NLt_e, NLe_e, NNe_e, NIs_e, imax_e, imin_e, irem_e, Bool.not_eq_true', Bool.not_eq_false', Bool.and_eq_true, Bool.or_eq_true, Bool.or_eq_false_iff, Bool.and_eq_false_iff, Cont.pts.injEq, Cont.ints.injEq, Cont.bools.injEq, Cont.ptss.injEq, Cont.intss.injEq, Cont.boolss.injEq, true_and, and_true, implies_true]
    refine ⟨fun h => ?_, fun h => ?_⟩
    · unfold armB
      rcases h with (h | h) | h <;> simp [h]
    · obtain ⟨⟨c1, c2⟩, c3⟩ := h
      refine ⟨fun | .int k :: _ => 0 ≤ k ∧ k ≤ ilen a1 ∧ (∀ j, 0 ≤ j → j < k → armE a1 a2 a3 j = true) | _ => False, fun | .int k :: _ => (ilen a1 - k).toNat | _ => 0, ?_, ?_⟩
      · exact ⟨Int.le_refl 0, h0, fun j h0 h1 => absurd h1 (by omega)⟩
      · rintro k _ ⟨hk0, hk1, hk⟩
        simp only [ilt_t, ilt_f, ile_t, ile_f, ieq_t, ieq_f, bnot_e, band_e, bite_and, bite_or, NLt_e, NLe_e, NNe_e, NIs_e, imax_e, imin_e, irem_e, Bool.not_eq_true', Bool.not_eq_false', Bool.and_eq_true, Bool.or_eq_true, Bool.or_eq_false_iff, Bool.and_eq_false_iff, Cont.pts.injEq, Cont.ints.injEq, Cont.bools.injEq, Cont.ptss.injEq, Cont.intss.injEq, Cont.boolss.injEq, true_and, and_true, implies_true]
        refine ⟨fun hc => ⟨⟨⟨hk0, hc⟩, fun _ => ⟨hk0, by omega⟩, fun _ => ⟨hk0, by omega⟩, fun _ => ⟨hk0, by omega⟩⟩, fun hv => ?_, fun hv => ?_⟩, fun hc => ?_⟩
        · have hE : armE a1 a2 a3 k = false := by unfold armE; rcases hv with (hv | hv) | hv <;> simp [hv]
          unfold armB; rw [allN_no k hk0 hc hE]; simp
        · have hE : armE a1 a2 a3 k = true := by unfold armE; rw [hv.1.1, hv.1.2, hv.2]; rfl
          rw [iadd_1 hk0 hc hl.1]
          exact ⟨⟨by omega, by omega, upTo hk hE⟩, by omega⟩
        · unfold armB; rw [allN_mk fun j h0 h1 => hk j h0 (by omega), c1]; simp [c2, c3]
  · cases h
def g_spec_l11Size : List AV → Option Sg
  | [.agg [.view (.ints a1), .view (.ints a2), .view (.ints a3)], .s (.int s)] => some ⟨True, [.s (.int (gsK a1 a2 a3 s 0)), .s (.int (gsK a1 a2 a3 s 1))]⟩
  | _ => none
def sig_spec_l11Size : FuncId → List AV → Option Sg := sigL [(77, g_spec_ArmValid), (65, g_spec_l1In)]
def xs_spec_l11Size : XS := ⟨xsigL [], ysigL []⟩
theorem sig_spec_l11Size_ok : SigOK sig_spec_l11Size := sigL_cons F_spec_ArmValid (sigL_cons F_spec_l1In sigL_nil)
theorem xs_spec_l11Size_ok : XSigOK xs_spec_l11Size := ⟨xsigL_nil, ysigL_nil⟩
theorem V_spec_l11Size (a1 : List Int) (a2 : List Int) (a3 : List Int) (s : Int) : ((true = true) ∧ ((True) ∧ (True) ∧ (True) ∧ True) ∧ (true = true) ∧ ((True) ∧ ((True)) ∧ (True) ∧ (True) ∧ (NIs (bnot (armB a1 a2 a3)) false → True) ∧ (NIs (bnot (armB a1 a2 a3)) false → True) ∧ (NIs (bnot (armB a1 a2 a3)) false → True) ∧ (NIs (bnot (armB a1 a2 a3)) false → True) ∧ (True) ∧ (True) ∧ (NIs (bite (bnot (armB a1 a2 a3)) true (bnot (ieq (ilen a1) (2 : Int)))) false → True) ∧ (NIs (bite (bnot (armB a1 a2 a3)) true (bnot (ieq (ilen a1) (2 : Int)))) false → (True)) ∧ (NIs (bite (bnot (armB a1 a2 a3)) true (bnot (ieq (ilen a1) (2 : Int)))) false → True) ∧ (True) ∧ True) ∧ ((bite (bite (bnot (armB a1 a2 a3)) true (bnot (ieq (ilen a1) (2 : Int)))) true (bnot (inB s (1 : Int) (360 : Int)))) = true → ((true = true) ∧ ((True) ∧ (True) ∧ True) ∧ (((0 : Int) : Int) = (gsK a1 a2 a3 s 0)) ∧ (((0 : Int) : Int) = (gsK a1 a2 a3 s 1)) ∧ True)) ∧ ((bite (bite (bnot (armB a1 a2 a3)) true (bnot (ieq (ilen a1) (2 : Int)))) true (bnot (inB s (1 : Int) (360 : Int)))) = false → ((true = true) ∧ ((True) ∧ (True) ∧ (NLe 0 (0 : Int) ∧ NLt (0 : Int) (ilen a3)) ∧ (True) ∧ (True) ∧ (True) ∧ (NLe 0 (0 : Int) ∧ NLt (0 : Int) (ilen a2)) ∧ (True) ∧ (True) ∧ (True) ∧ (NNe s 0) ∧ (True) ∧ (True) ∧ True) ∧ (true = true) ∧ ((True) ∧ (True) ∧ (NLe 0 (1 : Int) ∧ NLt (1 : Int) (ilen a3)) ∧ (True) ∧ (True) ∧ (True) ∧ (NLe 0 (1 : Int) ∧ NLt (1 : Int) (ilen a2)) ∧ (True) ∧ (True) ∧ (True) ∧ (NNe s 0) ∧ (True) ∧ (True) ∧ True) ∧ (true = true) ∧ ((True) ∧ (True) ∧ (True) ∧ (NIs (ilt (20 : Int) (iadd (iquo (isub (geti a3 (0 : Int)) (geti a2 (0 : Int))) s) (1 : Int))) false → True) ∧ (NIs (ilt (20 : Int) (iadd (iquo (isub (geti a3 (0 : Int)) (geti a2 (0 : Int))) s) (1 : Int))) false → True) ∧ (True) ∧ True) ∧ ((bite (ilt (20 : Int) (iadd (iquo (isub (geti a3 (0 : Int)) (geti a2 (0 : Int))) s) (1 : Int))) true (ilt (20 : Int) (iadd (iquo (isub (geti a3 (1 : Int)) (geti a2 (1 : Int))) s) (1 : Int)))) = true → ((true = true) ∧ ((True) ∧ (True) ∧ True) ∧ (((0 : Int) : Int) = (gsK a1 a2 a3 s 0)) ∧ (((0 : Int) : Int) = (gsK a1 a2 a3 s 1)) ∧ True)) ∧ ((bite (ilt (20 : Int) (iadd (iquo (isub (geti a3 (0 : Int)) (geti a2 (0 : Int))) s) (1 : Int))) true (ilt (20 : Int) (iadd (iquo (isub (geti a3 (1 : Int)) (geti a2 (1 : Int))) s) (1 : Int)))) = false → ((true = true) ∧ ((True) ∧ (True) ∧ (True) ∧ (True) ∧ True) ∧ (((iadd (iquo (isub (geti a3 (0 : Int)) (geti a2 (0 : Int))) s) (1 : Int)) : Int) = (gsK a1 a2 a3 s 0)) ∧ (((iadd (iquo (isub (geti a3 (1 : Int)) (geti a2 (1 : Int))) s) (1 : Int)) : Int) = (gsK a1 a2 a3 s 1)) ∧ True))))) = ev sig_spec_l11Size xs_spec_l11Size Try.f53.ntmps (fun b => []) (codeOf Try.f53) 0 (initS [.agg [.view (.ints a1), .view (.ints a2), .view (.ints a3)], .s (.int s)]) (retK Try.f53.results.toList [.s (.int (gsK a1 a2 a3 s 0)), .s (.int (gsK a1 a2 a3 s 1))]) := by kernel_rfl
set_option maxHeartbeats 400000 in
theorem F_spec_l11Size : FunOK 53 g_spec_l11Size := by
  refine fun_F (by kernel_rfl) Try.func53 rfl (by kernel_rfl) sig_spec_l11Size_ok xs_spec_l11Size_ok ?_
  intro avs sg h hn hl
  unfold g_spec_l11Size at h
  split at h
  · rename_i a1 a2 a3 s
    injection h with h; subst h
    refine ⟨by kernel_rfl, fun b => [], Eq.mp (V_spec_l11Size a1 a2 a3 s) ?_⟩
    simp only [true_and, and_true, implies_true, and_self, forall_const, true_implies, lenA, lenL, SV.lenOK, Cont.lenOK] at hn hl ⊢
    simp only [ilt_t, ilt_f, ile_t, ile_f, ieq_t, ieq_f, bnot_e, band_e, bite_and, bite_or, NLt_e, NLe_e, NNe_e, NIs_e, imax_e, imin_e, irem_e, Bool.not_eq_true', Bool.not_eq_false', Bool.and_eq_true, Bool.or_eq_true, Bool.or_eq_false_iff, Bool.and_eq_false_iff, Cont.pts.injEq, Cont.ints.injEq, Cont.bools.injEq, Cont.ptss.injEq, Cont.intss.injEq, Cont.boolss.injEq, true_and, and_true, implies_true]
    refine ⟨fun h => ?_, fun h => ?_⟩
    · have hB : gsB a1 a2 a3 s = false := by unfold gsB; rcases h with (h | h) | h <;> simp [h]
      unfold gsK; simp [hB]
    · obtain ⟨⟨h1, h2⟩, h3⟩ := h
      obtain ⟨e1, e2⟩ := armB_len h1
      have hB : gsB a1 a2 a3 s = true := by unfold gsB; rw [h1, h3]; simp [h2]
      have hs := inB_true h3
      refine ⟨by omega, by omega, fun h => ?_, fun h => ?_⟩
      · have : ¬ (gsB a1 a2 a3 s = true ∧ gsN a2 a3 s 0 ≤ 20 ∧ gsN a2 a3 s 1 ≤ 20) := by rintro ⟨_, g1, g2⟩; unfold gsN at g1 g2; omega
        unfold gsK; rw [if_neg this, if_neg this]; exact ⟨rfl, rfl⟩
      · have : gsB a1 a2 a3 s = true ∧ gsN a2 a3 s 0 ≤ 20 ∧ gsN a2 a3 s 1 ≤ 20 := ⟨hB, h.1, h.2⟩
        unfold gsK; rw [if_pos this, if_pos this]; exact ⟨rfl, rfl⟩
  · cases h
def g_spec_GridSize : List AV → Option Sg
  | [.agg [.view (.ints a1), .view (.ints a2), .view (.ints a3)], .s (.int s)] => some ⟨True, [.s (.int (gsK a1 a2 a3 s 0)), .s (.int (gsK a1 a2 a3 s 1))]⟩
  | _ => none
def sig_spec_GridSize : FuncId → List AV → Option Sg := sigL [(53, g_spec_l11Size)]
def xs_spec_GridSize : XS := ⟨xsigL [], ysigL []⟩
theorem sig_spec_GridSize_ok : SigOK sig_spec_GridSize := sigL_cons F_spec_l11Size sigL_nil
theorem xs_spec_GridSize_ok : XSigOK xs_spec_GridSize := ⟨xsigL_nil, ysigL_nil⟩
theorem V_spec_GridSize (a1 : List Int) (a2 : List Int) (a3 : List Int) (s : Int) : ((true = true) ∧ ((True) ∧ (True) ∧ (True) ∧ True) ∧ (true = true) ∧ ((True) ∧ (True) ∧ ((True)) ∧ (True) ∧ (True) ∧ (True) ∧ (True) ∧ True) ∧ (((gsK a1 a2 a3 s 0) : Int) = (gsK a1 a2 a3 s 0)) ∧ (((gsK a1 a2 a3 s 1) : Int) = (gsK a1 a2 a3 s 1)) ∧ True) = ev sig_spec_GridSize xs_spec_GridSize Try.f22.ntmps (fun b => []) (codeOf Try.f22) 0 (initS [.agg [.view (.ints a1), .view (.ints a2), .view (.ints a3)], .s (.int s)]) (retK Try.f22.results.toList [.s (.int (gsK a1 a2 a3 s 0)), .s (.int (gsK a1 a2 a3 s 1))]) := by kernel_rfl
set_option maxHeartbeats 400000 in
theorem F_spec_GridSize : FunOK 22 g_spec_GridSize := by
  refine fun_F (by kernel_rfl) Try.func22 rfl (by kernel_rfl) sig_spec_GridSize_ok xs_spec_GridSize_ok ?_
  intro avs sg h hn hl
  unfold g_spec_GridSize at h
  split at h
  · rename_i a1 a2 a3 s
    injection h with h; subst h
    refine ⟨by kernel_rfl, fun b => [], Eq.mp (V_spec_GridSize a1 a2 a3 s) ?_⟩
    simp only [true_and, and_true, implies_true, and_self, forall_const, true_implies, lenA, lenL, SV.lenOK, Cont.lenOK] at hn hl ⊢
  · cases h
def degW (d : Int) : Int := irem (iadd (irem d 360) 360) 360
def g_impl_Degrees : List AV → Option Sg
  | [.s (.int d)] => some ⟨True, [.s (.int (degW d))]⟩
  | _ => none
def sig_impl_Degrees : FuncId → List AV → Option Sg := sigL []
def xs_impl_Degrees : XS := ⟨xsigL [], ysigL []⟩
theorem sig_impl_Degrees_ok : SigOK sig_impl_Degrees := sigL_nil
theorem xs_impl_Degrees_ok : XSigOK xs_impl_Degrees := ⟨xsigL_nil, ysigL_nil⟩
theorem V_impl_Degrees (d : Int) : ((true = true) ∧ ((True) ∧ True) ∧ (true = true) ∧ ((True) ∧ (NNe (360 : Int) 0) ∧ (True) ∧ (NNe (360 : Int) 0) ∧ (True) ∧ True) ∧ (((irem (iadd (irem d (360 : Int)) (360 : Int)) (360 : Int)) : Int) = (degW d)) ∧ True) = ev sig_impl_Degrees xs_impl_Degrees Try.f61.ntmps (fun b => []) (codeOf Try.f61) 0 (initS [.s (.int d)]) (retK Try.f61.results.toList [.s (.int (degW d))]) := by kernel_rfl
set_option maxHeartbeats 400000 in
theorem F_impl_Degrees : FunOK 61 g_impl_Degrees := by
  refine fun_F (by kernel_rfl) Try.func61 rfl (by kernel_rfl) sig_impl_Degrees_ok xs_impl_Degrees_ok ?_
  intro avs sg h hn hl
  unfold g_impl_Degrees at h
  split at h
  · rename_i d
    injection h with h; subst h
    refine ⟨by kernel_rfl, fun b => [], Eq.mp (V_impl_Degrees d) ?_⟩
    simp only [true_and, and_true, implies_true, and_self, forall_const, true_implies, lenA, lenL, SV.lenOK, Cont.lenOK] at hn hl ⊢
    simp only [ilt_t, ilt_f, ile_t, ile_f, ieq_t, ieq_f, bnot_e, band_e, bite_and, bite_or, NLt_e, NLe_e, NNe_e, NIs_e, imax_e, imin_e, irem_e, Bool.not_eq_true', Bool.not_eq_false', Bool.and_eq_true, Bool.or_eq_true, Bool.or_eq_false_iff, Bool.and_eq_false_iff, Cont.pts.injEq, Cont.ints.injEq, Cont.bools.injEq, Cont.ptss.injEq, Cont.intss.injEq, Cont.boolss.injEq, true_and, and_true, implies_true]
    exact ⟨by decide, by simp [degW, irem_e]⟩
  · cases h
def g_laws_alive : List AV → Option Sg
  | [] => some ⟨True, [.s (.bool (true))]⟩
  | _ => none
def sig_laws_alive : FuncId → List AV → Option Sg := sigL [(61, g_impl_Degrees)]
def xs_laws_alive : XS := ⟨xsigL [], ysigL []⟩
theorem sig_laws_alive_ok : SigOK sig_laws_alive := sigL_cons F_impl_Degrees sigL_nil
theorem xs_laws_alive_ok : XSigOK xs_laws_alive := ⟨xsigL_nil, ysigL_nil⟩
theorem V_laws_alive  : ((true = true) ∧ ((True) ∧ True) ∧ (true = true) ∧ (((True)) ∧ (True) ∧ (True) ∧ True) ∧ (((ieq (degW (-1 : Int)) (359 : Int)) : Bool) = (true)) ∧ True) = ev sig_laws_alive xs_laws_alive Try.f27.ntmps (fun b => []) (codeOf Try.f27) 0 (initS []) (retK Try.f27.results.toList [.s (.bool (true))]) := by kernel_rfl
set_option maxHeartbeats 400000 in
theorem F_laws_alive : FunOK 27 g_laws_alive := by
  refine fun_F (by kernel_rfl) Try.func27 rfl (by kernel_rfl) sig_laws_alive_ok xs_laws_alive_ok ?_
  intro avs sg h hn hl
  unfold g_laws_alive at h
  split at h
  ·
    injection h with h; subst h
    refine ⟨by kernel_rfl, fun b => [], Eq.mp (V_laws_alive ) ?_⟩
    simp only [true_and, and_true, implies_true, and_self, forall_const, true_implies, lenA, lenL, SV.lenOK, Cont.lenOK] at hn hl ⊢
    unfold ieq degW
    rw [irem_e, irem_e, iadd_e (by decide) (by decide)]
    decide
  · cases h
theorem bxor_self (a : Bool) : bxor a a = false := by cases a <;> simp [bxor]
theorem armB_at {a1 a2 a3 : List Int} (h : armB a1 a2 a3 = true) {i : Int} (h0 : 0 ≤ i) (h1 : i < ilen a1) : (-180 ≤ geti a2 i ∧ geti a2 i ≤ 180) ∧ geti a2 i ≤ geti a3 i ∧ geti a3 i ≤ 180 := by
  unfold armB at h
  simp only [Bool.and_eq_true] at h
  have := allN_iff.1 h.2 i h0 h1
  unfold armE at this
  simp only [Bool.and_eq_true] at this
  have b1 := inB_true this.1.2; have b2 := inB_true this.2
  omega
theorem gsB_parts {a1 a2 a3 : List Int} {s : Int} (h : gsB a1 a2 a3 s = true) : armB a1 a2 a3 = true ∧ ilen a1 = 2 ∧ 1 ≤ s ∧ s ≤ 360 := by
  unfold gsB at h
  simp only [Bool.and_eq_true, decide_eq_true_eq] at h
  have := inB_true h.2
  exact ⟨h.1.1, h.1.2, this.1, this.2⟩
theorem gsN_e {a1 a2 a3 : List Int} {s i : Int} (h : gsB a1 a2 a3 s = true) (h0 : 0 ≤ i) (h1 : i < 2) : gsN a2 a3 s i = (geti a3 i - geti a2 i) / s + 1 ∧ 0 ≤ (geti a3 i - geti a2 i) / s ∧ (geti a3 i - geti a2 i) / s ≤ 360 ∧ (geti a3 i - geti a2 i) / s * s ≤ geti a3 i - geti a2 i := by
  obtain ⟨ha, hl, s1, s2⟩ := gsB_parts h
  obtain ⟨b1, b2, b3⟩ := armB_at ha h0 (by omega)
  have e1 : isub (geti a3 i) (geti a2 i) = geti a3 i - geti a2 i := isub_e (by omega) (by omega)
  have q0 : 0 ≤ (geti a3 i - geti a2 i) / s := Int.ediv_nonneg (by omega) (by omega)
  have q1 : (geti a3 i - geti a2 i) / s ≤ 360 := by
    have := Int.ediv_le_self (a := geti a3 i - geti a2 i) s (by omega)
    omega
  unfold gsN
  rw [e1, iquo_e (by omega) (by omega) s1, Int.tdiv_eq_ediv_of_nonneg (by omega), iadd_e (by omega) (by omega)]
  exact ⟨rfl, q0, q1, Int.ediv_mul_le _ (by omega)⟩
theorem gsK_cases (a1 a2 a3 : List Int) (s : Int) : (gsK a1 a2 a3 s 0 = 0 ∧ gsK a1 a2 a3 s 1 = 0) ∨ (gsB a1 a2 a3 s = true ∧ gsN a2 a3 s 0 ≤ 20 ∧ gsN a2 a3 s 1 ≤ 20 ∧ gsK a1 a2 a3 s 0 = gsN a2 a3 s 0 ∧ gsK a1 a2 a3 s 1 = gsN a2 a3 s 1 ∧ 1 ≤ gsN a2 a3 s 0 ∧ 1 ≤ gsN a2 a3 s 1) := by
  unfold gsK
  by_cases h : gsB a1 a2 a3 s = true ∧ gsN a2 a3 s 0 ≤ 20 ∧ gsN a2 a3 s 1 ≤ 20
  · rw [if_pos h, if_pos h]
    have h0 := gsN_e h.1 (i := 0) (by omega) (by omega)
    have h1 := gsN_e h.1 (i := 1) (by omega) (by omega)
    exact .inr ⟨h.1, h.2.1, h.2.2, rfl, rfl, by omega, by omega⟩
  · rw [if_neg h, if_neg h]; exact .inl ⟨rfl, rfl⟩
theorem div_anti {d s t : Int} (hd : 0 ≤ d) (hs : 1 ≤ s) (ht : s ≤ t) : d / t ≤ d / s := by
  refine (Int.le_ediv_iff_mul_le (by omega)).2 ?_
  have h1 : d / t * t ≤ d := Int.ediv_mul_le _ (by omega)
  have h0 : 0 ≤ d / t := Int.ediv_nonneg hd (by omega)
  have := Int.mul_le_mul_of_nonneg_left ht h0
  omega
theorem gsK_less {a1 a2 a3 : List Int} {s : Int} (hs : 0 ≤ s ∧ s ≤ 361) (h : gsK a1 a2 a3 s 0 ≠ 0) :
    (1 ≤ gsK a1 a2 a3 s 0 ∧ 1 ≤ gsK a1 a2 a3 s 1) ∧ (gsK a1 a2 a3 (min 360 (s + 1)) 0 ≤ gsK a1 a2 a3 s 0 ∧ gsK a1 a2 a3 (min 360 (s + 1)) 1 ≤ gsK a1 a2 a3 s 1) ∧ 1 ≤ gsK a1 a2 a3 (min 360 (s + 1)) 0 ∧ gsK a1 a2 a3 s 0 ≤ 20 ∧ gsK a1 a2 a3 s 1 ≤ 20 := by
  rcases gsK_cases a1 a2 a3 s with ⟨h0, _⟩ | ⟨hB, g0, g1, e0, e1, m0, m1⟩
  · exact absurd h0 h
  obtain ⟨ha, hl, s1, s2⟩ := gsB_parts hB
  have hB' : gsB a1 a2 a3 (min 360 (s + 1)) = true := by
    unfold gsB
    rw [ha, hl]; unfold inB; simp; omega
  obtain ⟨b1, b2, b3⟩ := armB_at ha (i := 0) (by omega) (by omega)
  obtain ⟨c1, c2, c3⟩ := armB_at ha (i := 1) (by omega) (by omega)
  have p0 := (gsN_e hB (i := 0) (by omega) (by omega)).1
  have p1 := (gsN_e hB (i := 1) (by omega) (by omega)).1
  have q0 := gsN_e hB' (i := 0) (by omega) (by omega)
  have q1 := gsN_e hB' (i := 1) (by omega) (by omega)
  have d0 := div_anti (d := geti a3 0 - geti a2 0) (s := s) (t := min 360 (s + 1)) (by omega) s1 (by omega)
  have d1 := div_anti (d := geti a3 1 - geti a2 1) (s := s) (t := min 360 (s + 1)) (by omega) s1 (by omega)
  rcases gsK_cases a1 a2 a3 (min 360 (s + 1)) with ⟨h0, h1⟩ | ⟨_, _, _, f0, f1, _, _⟩
  · exfalso
    unfold gsK at h0
    rw [if_pos ⟨hB', by omega, by omega⟩] at h0
    omega
  · omega
def g_laws_FnGridSize : List AV → Option Sg
  | [.s (.rdr n)] => some ⟨True, [.s (.bool (true))]⟩
  | _ => none
def sig_laws_FnGridSize : FuncId → List AV → Option Sg := sigL [(24, g_impl_GridSize), (22, g_spec_GridSize), (27, g_laws_alive)]
def xs_laws_FnGridSize : XS := ⟨xsigL [], ysigL [(26, g_spec_DrawGridSize)]⟩
theorem sig_laws_FnGridSize_ok : SigOK sig_laws_FnGridSize := sigL_cons F_impl_GridSize (sigL_cons F_spec_GridSize (sigL_cons F_laws_alive sigL_nil))
theorem xs_laws_FnGridSize_ok : XSigOK xs_laws_FnGridSize := ⟨xsigL_nil, ysigL_cons F_spec_DrawGridSize ysigL_nil⟩
theorem V_laws_FnGridSize (n : Int) : ((true = true) ∧ ((True) ∧ True) ∧ (true = true) ∧ ((True) ∧ (True) ∧ (True) ∧ True) ∧ ((ilt (1048576 : Int) n) = true → ((true = true) ∧ ((True) ∧ True) ∧ ((true : Bool) = (true)) ∧ True)) ∧ ((ilt (1048576 : Int) n) = false → ((true = true) ∧ ((True) ∧ True) ∧ (true = true) ∧ ((n ≤ 1048576)) ∧ (∀ x_27 : List Int, ∀ y_28 : List Int, ∀ z_29 : List Int, ∀ s_30 : Int, ((ilen x_27 ≤ 10 ∧ ilen y_28 ≤ 10 ∧ ilen z_29 ≤ 10 ∧ 0 ≤ s_30 ∧ s_30 ≤ 361) → ((true = true) ∧ ((true = true) ∧ ((true = true) ∧ ((True) ∧ (True) ∧ (True) ∧ (true = true) ∧ ((True) ∧ (True) ∧ ((True)) ∧ (True) ∧ (True) ∧ (True) ∧ (True) ∧ (True) ∧ True) ∧ (true = true) ∧ ((True) ∧ (True) ∧ ((True)) ∧ (True) ∧ (True) ∧ (True) ∧ (True) ∧ (True) ∧ True) ∧ (true = true) ∧ ((True) ∧ (True) ∧ (True) ∧ (True) ∧ (NIs (bnot (ieq (gsK (x_27) (y_28) (z_29) (s_30) 0) (gsK (x_27) (y_28) (z_29) (s_30) 0))) false → True) ∧ (NIs (bnot (ieq (gsK (x_27) (y_28) (z_29) (s_30) 0) (gsK (x_27) (y_28) (z_29) (s_30) 0))) false → True) ∧ (NIs (bnot (ieq (gsK (x_27) (y_28) (z_29) (s_30) 0) (gsK (x_27) (y_28) (z_29) (s_30) 0))) false → True) ∧ (True) ∧ True) ∧ ((bite (bnot (ieq (gsK (x_27) (y_28) (z_29) (s_30) 0) (gsK (x_27) (y_28) (z_29) (s_30) 0))) true (bnot (ieq (gsK (x_27) (y_28) (z_29) (s_30) 1) (gsK (x_27) (y_28) (z_29) (s_30) 1)))) = true → ((true = true) ∧ ((True) ∧ True) ∧ ((false : Bool) = (true)) ∧ True)) ∧ ((bite (bnot (ieq (gsK (x_27) (y_28) (z_29) (s_30) 0) (gsK (x_27) (y_28) (z_29) (s_30) 0))) true (bnot (ieq (gsK (x_27) (y_28) (z_29) (s_30) 1) (gsK (x_27) (y_28) (z_29) (s_30) 1)))) = false → ((true = true) ∧ ((True) ∧ (True) ∧ True) ∧ ((ieq (gsK (x_27) (y_28) (z_29) (s_30) 0) (0 : Int)) = true → ((true = true) ∧ ((True) ∧ (True) ∧ (True) ∧ (NIs (ieq (gsK (x_27) (y_28) (z_29) (s_30) 1) (0 : Int)) true → (True)) ∧ (True) ∧ (True) ∧ True) ∧ (((bite (ieq (gsK (x_27) (y_28) (z_29) (s_30) 1) (0 : Int)) (true) false) : Bool) = (true)) ∧ True)) ∧ ((ieq (gsK (x_27) (y_28) (z_29) (s_30) 0) (0 : Int)) = false → ((true = true) ∧ ((True) ∧ (True) ∧ (True) ∧ (True) ∧ ((True)) ∧ (True) ∧ (True) ∧ (True) ∧ (True) ∧ (True) ∧ True) ∧ (true = true) ∧ ((True) ∧ (True) ∧ (True) ∧ (NIs (ile (1 : Int) (gsK (x_27) (y_28) (z_29) (s_30) 0)) true → True) ∧ (NIs (ile (1 : Int) (gsK (x_27) (y_28) (z_29) (s_30) 0)) true → True) ∧ (True) ∧ (True) ∧ (NIs (bite (ile (1 : Int) (gsK (x_27) (y_28) (z_29) (s_30) 0)) (ile (1 : Int) (gsK (x_27) (y_28) (z_29) (s_30) 1)) false) true → True) ∧ (NIs (bite (ile (1 : Int) (gsK (x_27) (y_28) (z_29) (s_30) 0)) (ile (1 : Int) (gsK (x_27) (y_28) (z_29) (s_30) 1)) false) true → True) ∧ (NIs (bite (ile (1 : Int) (gsK (x_27) (y_28) (z_29) (s_30) 0)) (ile (1 : Int) (gsK (x_27) (y_28) (z_29) (s_30) 1)) false) true → True) ∧ (True) ∧ (True) ∧ (NIs (bite (bite (ile (1 : Int) (gsK (x_27) (y_28) (z_29) (s_30) 0)) (ile (1 : Int) (gsK (x_27) (y_28) (z_29) (s_30) 1)) false) (ile (gsK (x_27) (y_28) (z_29) (imin (360 : Int) (iadd (s_30) (1 : Int))) 0) (gsK (x_27) (y_28) (z_29) (s_30) 0)) false) true → True) ∧ (NIs (bite (bite (ile (1 : Int) (gsK (x_27) (y_28) (z_29) (s_30) 0)) (ile (1 : Int) (gsK (x_27) (y_28) (z_29) (s_30) 1)) false) (ile (gsK (x_27) (y_28) (z_29) (imin (360 : Int) (iadd (s_30) (1 : Int))) 0) (gsK (x_27) (y_28) (z_29) (s_30) 0)) false) true → True) ∧ (NIs (bite (bite (ile (1 : Int) (gsK (x_27) (y_28) (z_29) (s_30) 0)) (ile (1 : Int) (gsK (x_27) (y_28) (z_29) (s_30) 1)) false) (ile (gsK (x_27) (y_28) (z_29) (imin (360 : Int) (iadd (s_30) (1 : Int))) 0) (gsK (x_27) (y_28) (z_29) (s_30) 0)) false) true → True) ∧ (True) ∧ (True) ∧ (NIs (bite (bite (bite (ile (1 : Int) (gsK (x_27) (y_28) (z_29) (s_30) 0)) (ile (1 : Int) (gsK (x_27) (y_28) (z_29) (s_30) 1)) false) (ile (gsK (x_27) (y_28) (z_29) (imin (360 : Int) (iadd (s_30) (1 : Int))) 0) (gsK (x_27) (y_28) (z_29) (s_30) 0)) false) (ile (gsK (x_27) (y_28) (z_29) (imin (360 : Int) (iadd (s_30) (1 : Int))) 1) (gsK (x_27) (y_28) (z_29) (s_30) 1)) false) true → True) ∧ (NIs (bite (bite (bite (ile (1 : Int) (gsK (x_27) (y_28) (z_29) (s_30) 0)) (ile (1 : Int) (gsK (x_27) (y_28) (z_29) (s_30) 1)) false) (ile (gsK (x_27) (y_28) (z_29) (imin (360 : Int) (iadd (s_30) (1 : Int))) 0) (gsK (x_27) (y_28) (z_29) (s_30) 0)) false) (ile (gsK (x_27) (y_28) (z_29) (imin (360 : Int) (iadd (s_30) (1 : Int))) 1) (gsK (x_27) (y_28) (z_29) (s_30) 1)) false) true → True) ∧ (True) ∧ (True) ∧ (NIs (bite (bite (bite (bite (ile (1 : Int) (gsK (x_27) (y_28) (z_29) (s_30) 0)) (ile (1 : Int) (gsK (x_27) (y_28) (z_29) (s_30) 1)) false) (ile (gsK (x_27) (y_28) (z_29) (imin (360 : Int) (iadd (s_30) (1 : Int))) 0) (gsK (x_27) (y_28) (z_29) (s_30) 0)) false) (ile (gsK (x_27) (y_28) (z_29) (imin (360 : Int) (iadd (s_30) (1 : Int))) 1) (gsK (x_27) (y_28) (z_29) (s_30) 1)) false) (ile (1 : Int) (gsK (x_27) (y_28) (z_29) (imin (360 : Int) (iadd (s_30) (1 : Int))) 0)) false) true → True) ∧ (NIs (bite (bite (bite (bite (ile (1 : Int) (gsK (x_27) (y_28) (z_29) (s_30) 0)) (ile (1 : Int) (gsK (x_27) (y_28) (z_29) (s_30) 1)) false) (ile (gsK (x_27) (y_28) (z_29) (imin (360 : Int) (iadd (s_30) (1 : Int))) 0) (gsK (x_27) (y_28) (z_29) (s_30) 0)) false) (ile (gsK (x_27) (y_28) (z_29) (imin (360 : Int) (iadd (s_30) (1 : Int))) 1) (gsK (x_27) (y_28) (z_29) (s_30) 1)) false) (ile (1 : Int) (gsK (x_27) (y_28) (z_29) (imin (360 : Int) (iadd (s_30) (1 : Int))) 0)) false) true → True) ∧ (True) ∧ (True) ∧ (NIs (bite (bite (bite (bite (bite (ile (1 : Int) (gsK (x_27) (y_28) (z_29) (s_30) 0)) (ile (1 : Int) (gsK (x_27) (y_28) (z_29) (s_30) 1)) false) (ile (gsK (x_27) (y_28) (z_29) (imin (360 : Int) (iadd (s_30) (1 : Int))) 0) (gsK (x_27) (y_28) (z_29) (s_30) 0)) false) (ile (gsK (x_27) (y_28) (z_29) (imin (360 : Int) (iadd (s_30) (1 : Int))) 1) (gsK (x_27) (y_28) (z_29) (s_30) 1)) false) (ile (1 : Int) (gsK (x_27) (y_28) (z_29) (imin (360 : Int) (iadd (s_30) (1 : Int))) 0)) false) (ile (gsK (x_27) (y_28) (z_29) (s_30) 0) (20 : Int)) false) true → True) ∧ (NIs (bite (bite (bite (bite (bite (ile (1 : Int) (gsK (x_27) (y_28) (z_29) (s_30) 0)) (ile (1 : Int) (gsK (x_27) (y_28) (z_29) (s_30) 1)) false) (ile (gsK (x_27) (y_28) (z_29) (imin (360 : Int) (iadd (s_30) (1 : Int))) 0) (gsK (x_27) (y_28) (z_29) (s_30) 0)) false) (ile (gsK (x_27) (y_28) (z_29) (imin (360 : Int) (iadd (s_30) (1 : Int))) 1) (gsK (x_27) (y_28) (z_29) (s_30) 1)) false) (ile (1 : Int) (gsK (x_27) (y_28) (z_29) (imin (360 : Int) (iadd (s_30) (1 : Int))) 0)) false) (ile (gsK (x_27) (y_28) (z_29) (s_30) 0) (20 : Int)) false) true → True) ∧ (True) ∧ (True) ∧ True) ∧ (((bite (bite (bite (bite (bite (bite (ile (1 : Int) (gsK (x_27) (y_28) (z_29) (s_30) 0)) (ile (1 : Int) (gsK (x_27) (y_28) (z_29) (s_30) 1)) false) (ile (gsK (x_27) (y_28) (z_29) (imin (360 : Int) (iadd (s_30) (1 : Int))) 0) (gsK (x_27) (y_28) (z_29) (s_30) 0)) false) (ile (gsK (x_27) (y_28) (z_29) (imin (360 : Int) (iadd (s_30) (1 : Int))) 1) (gsK (x_27) (y_28) (z_29) (s_30) 1)) false) (ile (1 : Int) (gsK (x_27) (y_28) (z_29) (imin (360 : Int) (iadd (s_30) (1 : Int))) 0)) false) (ile (gsK (x_27) (y_28) (z_29) (s_30) 0) (20 : Int)) false) (ile (gsK (x_27) (y_28) (z_29) (s_30) 1) (20 : Int)) false) : Bool) = (true)) ∧ True))))))))))))) = ev sig_laws_FnGridSize xs_laws_FnGridSize Try.f5.ntmps (fun b => []) (codeOf Try.f5) 0 (initS [.s (.rdr n)]) (retK Try.f5.results.toList [.s (.bool (true))]) := by kernel_rfl
set_option maxHeartbeats 400000 in
theorem F_laws_FnGridSize : FunOK 5 g_laws_FnGridSize := by
  refine fun_F (by kernel_rfl) Try.func5 rfl (by kernel_rfl) sig_laws_FnGridSize_ok xs_laws_FnGridSize_ok ?_
  intro avs sg h hn hl
  unfold g_laws_FnGridSize at h
  split at h
  · rename_i n
    injection h with h; subst h
    refine ⟨by kernel_rfl, fun b => [], Eq.mp (V_laws_FnGridSize n) ?_⟩
    simp only [true_and, and_true, implies_true, and_self, forall_const, true_implies, lenA, lenL, SV.lenOK, Cont.lenOK] at hn hl ⊢
    simp only [ilt_t, ilt_f, ile_t, ile_f, ieq_t, ieq_f, bnot_e, band_e, bite_and, bite_or, NLt_e, NLe_e, NNe_e, NIs_e, imax_e, imin_e, irem_e, Bool.not_eq_true', Bool.not_eq_false', Bool.and_eq_true, Bool.or_eq_true, Bool.or_eq_false_iff, Bool.and_eq_false_iff, Cont.pts.injEq, Cont.ints.injEq, Cont.bools.injEq, Cont.ptss.injEq, Cont.intss.injEq, Cont.boolss.injEq, true_and, and_true, implies_true]
    intro h
    refine ⟨h, fun x y z s hp => ⟨by simp, fun _ => ⟨fun h0 => ?_, fun h0 => ?_⟩⟩⟩
    · rcases gsK_cases x y z s with ⟨_, h1⟩ | ⟨_, _, _, e0, _, m0, _⟩
      · exact h1
      · omega
    · have e1 : iadd s 1 = s + 1 := iadd_e (by omega) (by omega)
      rw [e1]
      have := gsK_less ⟨hp.2.2.2.1, hp.2.2.2.2⟩ h0
      omega
  · cases h
theorem fnGridSize_walk (w : World) (v0 : Value) (x0 : Nat) (w0 : BytesArg w v0 x0) : Calls Try.prog 5 #[v0] w fun e w' => e = .returned (.bool true) ∧ Bel w w' :=
  walk_of F_laws_FnGridSize (avs := [.s (.rdr x0)]) rfl trivial ⟨bytes_reads w0, trivial⟩
set_option maxRecDepth 100000 in
theorem fnGridSize_lifted (os : Os) (started : os.Started) (H : Type) (enc : TypeId × Value → H) :
    ReturnsInHanded {} Try.checked os 5 .any (Rows.fnGridSizeSpec.pre6 enc Try.prog Try.f5 Rows.fnGridSizeRow.domain false) (Rows.fnGridSizeSpec.post enc Try.prog Try.f5 false true false false) := by
  have own : ownKnob Try.prog.godebug = none := by kernel_rfl
  have laidOut : laidOutB Try.prog = true := by kernel_rfl
  refine returnsInHanded_of_change (C := Try.checked) own started (by kernel_rfl) Try.func5
    (ChangeSpec.witness6 (enc := enc) (C := Try.checked) false ⟨#[], #[.slice none 0 0], []⟩ 8 (by kernel_rfl) (by kernel_rfl) (by kernel_rfl) (by kernel_rfl)) ?_
  intro W base args ds gs before hval0 hW hcnd _
  have hval : ∀ (j : Nat) t v, Try.f5.params[j]? = some t → args[j]? = some v → Value.okWide Try.prog W .any base t v := hval0
  have hW' := hW
  obtain ⟨p, q, hA0, hV, rfl, hfz, hnd⟩ := hW
  have hA : DataW.TrodAll enc Try.prog W 0 (fun _ => true) true Try.f5.params.toList args.toList ds p := hA0
  rw [Try.params5] at hA hval
  obtain ⟨v0, vs0, d0, ds0, p0, q0, hargs, rfl, rfl, h0, r0⟩ := trodAll_cons hA
  obtain ⟨rfl, rfl, rfl⟩ := trodAll_nil r0
  obtain rfl : args = #[v0] := by cases args; simp_all
  obtain ⟨rfl, rfl⟩ := trodVars_none hV
  have k0 := h0
  have lt0 : ∀ x ∈ p0, x.block < W.heap.size := by obtain ⟨m, hm⟩ := k0; exact DataW.trod_lt m _ _ _ hm
  obtain ⟨x0, w0⟩ := opn_bytes (hval 0 40 v0 rfl rfl) h0
  clear hA0 hval0
  refine (fnGridSize_walk W v0 x0 w0).mono fun e W' ⟨he, bel⟩ => ?_
  subst he
  exact ⟨_, rfl, _, _, _, [], _, [], hW', trodAll_mk1 (shut_bool Try.underlying4 _), (trodAll_cons_mk (Below.trod laidOut (by kernel_rfl) (of_decide_eq_true (by kernel_rfl)) k0 bel lt0) trodAll_mk0), rfl, Below.frame bel _, fun h => by cases h⟩
theorem fnGridSize_over : Rows.fnGridSizeRow.holds Try.pinned (OpenSpec.ofChange Rows.fnGridSizeSpec) :=
  OpenClaim.holds_of_wide 5 Try.f5 rfl rfl rfl rfl rfl rfl rfl ⟨rfl, rfl, rfl, rfl, rfl⟩ rfl rfl rfl rfl rfl (by kernel_rfl) Try.func5 (by kernel_rfl)
    (of_decide_eq_true (by kernel_rfl)) (by unfold Func.isWrapper; first | (rw [if_pos (by decide +kernel)]; kernel_rfl) | (rw [if_neg (by decide +kernel)]; exact ⟨rfl, rfl⟩))
    (fun os started H enc _ => fnGridSize_lifted os started H enc)
theorem fnGridSize_proved : Rows.FnGridSizeSaid := fnGridSize_over
#print axioms fnGridSize_proved
end Go.Proofs.Ytnhgojcleepdiaa
