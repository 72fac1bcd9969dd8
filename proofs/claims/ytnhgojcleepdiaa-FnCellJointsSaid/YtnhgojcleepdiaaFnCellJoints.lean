/- 'FnCellJoints': for every code both sides tell the same angles of a cell; they are valid for the arm, begin with the least angle plus as many steps as the cell's number, and those of the first cell are the least ones. Conditions: none. -/
import Derived.Test.YtnhgojcleepdiaaAxO
namespace Go.Proofs.Ytnhgojcleepdiaa
open Go.ChangeShapes Go.WideShapes Go.ChangeAt Go.RowKit
set_option maxRecDepth 100000
set_option linter.unusedSimpArgs false
set_option linter.unusedVariables false
def s_spec_l20Arm (r1 : Int) (r2 : Int) (m : Int) (n : Int) : SgX := ⟨r1 ≤ 2000 ∧ 0 ≤ r2 ∧ r2 ≤ 100000 ∧ 1 ≤ m ∧ m ≤ 4 ∧ -1000000 ≤ n ∧ n ≤ 1000000, [.ints, .ints, .ints, .int], (fun | [.ints x, .ints y, .ints z, .int q] => ilen x ≤ 10 ∧ ilen y ≤ 10 ∧ ilen z ≤ 10 ∧ r2 ≤ q ∧ q ≤ r2 + 100 | _ => False), (fun | [.ints x, .ints y, .ints z, .int q] => [.agg [.view (.ints (x)), .view (.ints (y)), .view (.ints (z))]] | _ => []), (fun | [.ints x, .ints y, .ints z, .int q] => .box [.rdr r1, .int (q)] | _ => .box [])⟩
def g_spec_l20Arm : Bx → List AV → Option SgX
  | .box [.rdr r1, .int r2], [.s (.int m), .s (.int n)] => some (s_spec_l20Arm r1 r2 m n)
  | _, _ => none
def sig_spec_l20Arm : FuncId → List AV → Option Sg := sigL []
def xs_spec_l20Arm : XS := ⟨xsigL [(64, g_spec_l20Rd_pick), (59, g_spec_l20Rd_odd)], ysigL []⟩
theorem sig_spec_l20Arm_ok : SigOK sig_spec_l20Arm := sigL_nil
theorem xs_spec_l20Arm_ok : XSigOK xs_spec_l20Arm := ⟨xsigL_cons F_spec_l20Rd_pick (xsigL_cons F_spec_l20Rd_odd xsigL_nil), ysigL_nil⟩
def L_spec_l20Arm_0 (r2 : Int) (l1_2 : List Int) (k_6 : Int) (k_8 : Int) (l1_3 : List Int) (l1_4 : List Int) (r1 : Int) (q_5 : Int) : Prop := ∃ x : List Int, ∃ y : List Int, ∃ z : List Int, ∃ q : Int, ((ilen x ≤ 10 ∧ ilen y ≤ 10 ∧ ilen z ≤ 10 ∧ r2 ≤ q ∧ q ≤ r2 + 100) ∧ ((((true = true) ∧ ((Cont.ints (seti l1_2 (k_6) (geti [(0 : Int), (501 : Int)] (k_8)))) = (Cont.ints (x)))) ∧ ((true = true) ∧ ((Cont.ints l1_3) = (Cont.ints (y)))) ∧ ((true = true) ∧ ((Cont.ints l1_4) = (Cont.ints (z)))) ∧ True) ∧ True) ∧ ((true = true) ∧ (true = true) ∧ ((r1 : Int) = r1) ∧ ((((((q_5) + 1) + 1) + 1) : Int) = (q)) ∧ True))
def L_spec_l20Arm_1 (r2 : Int) (l1_2 : List Int) (l1_3 : List Int) (k_6 : Int) (l1_4 : List Int) (k_9 : Int) (r1 : Int) (q_5 : Int) : Prop := ∃ x : List Int, ∃ y : List Int, ∃ z : List Int, ∃ q : Int, ((ilen x ≤ 10 ∧ ilen y ≤ 10 ∧ ilen z ≤ 10 ∧ r2 ≤ q ∧ q ≤ r2 + 100) ∧ ((((true = true) ∧ ((Cont.ints l1_2) = (Cont.ints (x)))) ∧ ((true = true) ∧ ((Cont.ints (seti l1_3 (k_6) (geti [(-181 : Int), (iadd (geti l1_4 (k_6)) (1 : Int))] (k_9)))) = (Cont.ints (y)))) ∧ ((true = true) ∧ ((Cont.ints l1_4) = (Cont.ints (z)))) ∧ True) ∧ True) ∧ ((true = true) ∧ (true = true) ∧ ((r1 : Int) = r1) ∧ ((((((q_5) + 1) + 1) + 1) : Int) = (q)) ∧ True))
def L_spec_l20Arm_2 (r2 : Int) (l1_2 : List Int) (l1_3 : List Int) (l1_4 : List Int) (r1 : Int) (q_5 : Int) : Prop := ∃ x : List Int, ∃ y : List Int, ∃ z : List Int, ∃ q : Int, ((ilen x ≤ 10 ∧ ilen y ≤ 10 ∧ ilen z ≤ 10 ∧ r2 ≤ q ∧ q ≤ r2 + 100) ∧ ((((true = true) ∧ ((Cont.ints l1_2) = (Cont.ints (x)))) ∧ ((true = true) ∧ ((Cont.ints l1_3) = (Cont.ints (y)))) ∧ ((Cont.ints (idrop l1_4 (1 : Int))) = (Cont.ints (z))) ∧ True) ∧ True) ∧ ((true = true) ∧ (true = true) ∧ ((r1 : Int) = r1) ∧ (((((q_5) + 1) + 1) : Int) = (q)) ∧ True))
def L_spec_l20Arm_3 (r2 : Int) (l2_0 : List Int) (l1_3 : List Int) (l1_4 : List Int) (r1 : Int) (q_5 : Int) : Prop := ∃ x : List Int, ∃ y : List Int, ∃ z : List Int, ∃ q : Int, ((ilen x ≤ 10 ∧ ilen y ≤ 10 ∧ ilen z ≤ 10 ∧ r2 ≤ q ∧ q ≤ r2 + 100) ∧ ((((true = true) ∧ ((Cont.ints l2_0) = (Cont.ints (x)))) ∧ ((true = true) ∧ ((Cont.ints l1_3) = (Cont.ints (y)))) ∧ ((true = true) ∧ ((Cont.ints l1_4) = (Cont.ints (z)))) ∧ True) ∧ True) ∧ ((true = true) ∧ (true = true) ∧ ((r1 : Int) = r1) ∧ (((((q_5) + 1) + 1) : Int) = (q)) ∧ True))
def L_spec_l20Arm_4 (r2 : Int) (l1_2 : List Int) (l1_3 : List Int) (l1_4 : List Int) (r1 : Int) (q_5 : Int) : Prop := ∃ x : List Int, ∃ y : List Int, ∃ z : List Int, ∃ q : Int, ((ilen x ≤ 10 ∧ ilen y ≤ 10 ∧ ilen z ≤ 10 ∧ r2 ≤ q ∧ q ≤ r2 + 100) ∧ ((((true = true) ∧ ((Cont.ints l1_2) = (Cont.ints (x)))) ∧ ((true = true) ∧ ((Cont.ints l1_3) = (Cont.ints (y)))) ∧ ((true = true) ∧ ((Cont.ints l1_4) = (Cont.ints (z)))) ∧ True) ∧ True) ∧ ((true = true) ∧ (true = true) ∧ ((r1 : Int) = r1) ∧ (((q_5) : Int) = (q)) ∧ True))
theorem V_spec_l20Arm (r1 : Int) (r2 : Int) (m : Int) (n : Int) : ((true = true) ∧ ((True) ∧ True) ∧ (true = true) ∧ ((True) ∧ (True) ∧ True) ∧ (True) ∧ (true = true) ∧ ((True) ∧ True) ∧ ∃ (I1 : List GV → Prop) (μ1 : List GV → Nat), (((true = true) ∧ ((((0 : Int) : Int) = (0 : Int)) ∧ ((True) ∧ (True) ∧ (True) ∧ True) ∧ (true = true) ∧ (true = true) ∧ (true = true) ∧ ((m : Int) = m) ∧ ((n : Int) = n) ∧ True) ∧ (((true = true) ∧ ((Cont.ints []) = (Cont.ints []))) ∧ ((true = true) ∧ ((Cont.ints []) = (Cont.ints []))) ∧ ((true = true) ∧ ((Cont.ints []) = (Cont.ints []))) ∧ ((true = true) ∧ (true = true) ∧ (true = true) ∧ True) ∧ (((r1 : Int) = r1) ∧ ((r2 : Int) = r2) ∧ True) ∧ ((True) ∧ (True) ∧ (True) ∧ True) ∧ True)) ∧ (([GK.int, GK.int, GK.ints, GK.ints, GK.ints] : List GK) = ([GK.int, GK.int, GK.ints, GK.ints, GK.ints] : List GK)) ∧ I1 [GV.int (0 : Int), GV.int r2, GV.ints [], GV.ints [], GV.ints []]) ∧ (∀ i1_0 : Int, ∀ i1_1 : Int, ∀ l1_2 : List Int, ∀ l1_3 : List Int, ∀ l1_4 : List Int, I1 [GV.int i1_0, GV.int i1_1, GV.ints l1_2, GV.ints l1_3, GV.ints l1_4] → ((true = true) ∧ ((True) ∧ (True) ∧ (True) ∧ True) ∧ ((ilt i1_0 m) = true → ((true = true) ∧ ((true = true) ∧ (True) ∧ ((true = true) ∧ (True) ∧ ((true = true) ∧ (True) ∧ ((true = true) ∧ ((r1 ≤ 2000 ∧ 0 ≤ i1_1 ∧ i1_1 ≤ 1000000)) ∧ (∀ k_1 : Int, ((pickP (120 : Int) k_1) → ((true = true) ∧ (True) ∧ ((true = true) ∧ (True) ∧ ((NLe (ilen l1_2) 1000000000 ∧ NLe (ilen [(iadd (1 : Int) (k_1))]) 1000000000) ∧ (True) ∧ (True) ∧ (true = true) ∧ ((True) ∧ True) ∧ (true = true) ∧ ((r1 ≤ 2000 ∧ 0 ≤ (i1_1 + 1) ∧ (i1_1 + 1) ≤ 1000000)) ∧ (∀ k_2 : Int, ((pickP (300 : Int) k_2) → ((True) ∧ (True) ∧ (true = true) ∧ ((True) ∧ (True) ∧ (True) ∧ (True) ∧ True) ∧ (NLe (ilen l1_3) 1000000000 ∧ NLe (ilen [(isub (k_2) (180 : Int))]) 1000000000) ∧ (True) ∧ (True) ∧ (true = true) ∧ ((true = true) ∧ (True) ∧ ((true = true) ∧ (True) ∧ ((true = true) ∧ (True) ∧ ((true = true) ∧ (True) ∧ ((true = true) ∧ (True) ∧ ((true = true) ∧ (True) ∧ ((true = true) ∧ (True) ∧ ((true = true) ∧ ((r1 ≤ 2000 ∧ 0 ≤ ((i1_1 + 1) + 1) ∧ ((i1_1 + 1) + 1) ≤ 1000000)) ∧ (∀ k_3 : Int, ((pickP (imin (60 : Int) (isub (181 : Int) (isub (k_2) (180 : Int)))) k_3) → ((true = true) ∧ (True) ∧ ((true = true) ∧ (True) ∧ ((NLe (ilen l1_4) 1000000000 ∧ NLe (ilen [(iadd (isub (k_2) (180 : Int)) (k_3))]) 1000000000) ∧ (True) ∧ (True) ∧ (true = true) ∧ ((True) ∧ (True) ∧ (True) ∧ True) ∧ ((true = true) ∧ ((((iadd i1_0 (1 : Int)) : Int) = (iadd i1_0 (1 : Int))) ∧ ((True) ∧ (True) ∧ (True) ∧ True) ∧ (true = true) ∧ (true = true) ∧ (true = true) ∧ ((m : Int) = m) ∧ ((n : Int) = n) ∧ True) ∧ (((true = true) ∧ ((Cont.ints (iapp l1_4 [(iadd (isub (k_2) (180 : Int)) (k_3))])) = (Cont.ints (iapp l1_4 [(iadd (isub (k_2) (180 : Int)) (k_3))])))) ∧ ((true = true) ∧ ((Cont.ints (iapp l1_3 [(isub (k_2) (180 : Int))])) = (Cont.ints (iapp l1_3 [(isub (k_2) (180 : Int))])))) ∧ ((true = true) ∧ ((Cont.ints (iapp l1_2 [(iadd (1 : Int) (k_1))])) = (Cont.ints (iapp l1_2 [(iadd (1 : Int) (k_1))])))) ∧ ((true = true) ∧ (true = true) ∧ (true = true) ∧ True) ∧ (((r1 : Int) = r1) ∧ (((((i1_1 + 1) + 1) + 1) : Int) = (((i1_1 + 1) + 1) + 1)) ∧ True) ∧ ((True) ∧ (True) ∧ (True) ∧ True) ∧ True)) ∧ ((([GK.int, GK.int, GK.ints, GK.ints, GK.ints] : List GK) = ([GK.int, GK.int, GK.ints, GK.ints, GK.ints] : List GK)) ∧ I1 [GV.int (iadd i1_0 (1 : Int)), GV.int (((i1_1 + 1) + 1) + 1), GV.ints (iapp l1_2 [(iadd (1 : Int) (k_1))]), GV.ints (iapp l1_3 [(isub (k_2) (180 : Int))]), GV.ints (iapp l1_4 [(iadd (isub (k_2) (180 : Int)) (k_3))])] ∧ μ1 [GV.int (iadd i1_0 (1 : Int)), GV.int (((i1_1 + 1) + 1) + 1), GV.ints (iapp l1_2 [(iadd (1 : Int) (k_1))]), GV.ints (iapp l1_3 [(isub (k_2) (180 : Int))]), GV.ints (iapp l1_4 [(iadd (isub (k_2) (180 : Int)) (k_3))])] < μ1 [GV.int i1_0, GV.int i1_1, GV.ints l1_2, GV.ints l1_3, GV.ints l1_4])))))))))))))))))))))))))))) ∧ ((ilt i1_0 m) = false → ((true = true) ∧ ((True) ∧ (True) ∧ True) ∧ (true = true) ∧ ((r1 ≤ 2000 ∧ 0 ≤ i1_1 ∧ i1_1 ≤ 1000000 ∧ -1000000 ≤ n ∧ n ≤ 1000000)) ∧ (∀ b_4 : Bool, ∀ q_5 : Int, (((n ≤ 0 → b_4 = false) ∧ i1_1 ≤ q_5 ∧ q_5 ≤ i1_1 + 1) → (((b_4) = true → ((true = true) ∧ ((True) ∧ (True) ∧ True) ∧ (true = true) ∧ ((r1 ≤ 2000 ∧ 0 ≤ (q_5) ∧ (q_5) ≤ 1000000)) ∧ (∀ k_6 : Int, ((pickP m k_6) → ((True) ∧ (true = true) ∧ ((True) ∧ True) ∧ (true = true) ∧ ((r1 ≤ 2000 ∧ 0 ≤ ((q_5) + 1) ∧ ((q_5) + 1) ≤ 1000000)) ∧ (∀ k_7 : Int, ((pickP (4 : Int) k_7) → ((true = true) ∧ ((True) ∧ (True) ∧ True) ∧ ((ieq (k_7) (0 : Int)) = true → ((true = true) ∧ ((true = true) ∧ (True) ∧ ((true = true) ∧ (True) ∧ ((true = true) ∧ (True) ∧ ((true = true) ∧ (True) ∧ ((true = true) ∧ (True) ∧ ((true = true) ∧ ((r1 ≤ 2000 ∧ 0 ≤ (((q_5) + 1) + 1) ∧ (((q_5) + 1) + 1) ≤ 1000000)) ∧ (∀ k_8 : Int, ((pickP (2 : Int) k_8) → ((true = true) ∧ (NLe 0 (k_8) ∧ NLt (k_8) (ilen [(0 : Int), (501 : Int)])) ∧ ((true = true) ∧ (True) ∧ ((NLe 0 (k_6) ∧ NLt (k_6) (ilen l1_2)) ∧ (NLt (k_6) (ilen l1_2)) ∧ (true = true) ∧ ((True) ∧ True) ∧ (True) ∧ L_spec_l20Arm_0 r2 l1_2 k_6 k_8 l1_3 l1_4 r1 q_5))))))))))))) ∧ ((ieq (k_7) (0 : Int)) = false → ((true = true) ∧ ((True) ∧ (True) ∧ True) ∧ ((ieq (k_7) (1 : Int)) = true → ((true = true) ∧ ((true = true) ∧ (True) ∧ ((true = true) ∧ (True) ∧ ((true = true) ∧ (True) ∧ ((true = true) ∧ (True) ∧ ((true = true) ∧ (True) ∧ ((true = true) ∧ (True) ∧ ((true = true) ∧ (NLe 0 (k_6) ∧ NLt (k_6) (ilen l1_4)) ∧ ((true = true) ∧ (NLt (k_6) (ilen l1_4)) ∧ ((true = true) ∧ (True) ∧ ((true = true) ∧ (True) ∧ ((true = true) ∧ (True) ∧ ((true = true) ∧ ((r1 ≤ 2000 ∧ 0 ≤ (((q_5) + 1) + 1) ∧ (((q_5) + 1) + 1) ≤ 1000000)) ∧ (∀ k_9 : Int, ((pickP (2 : Int) k_9) → ((true = true) ∧ (NLe 0 (k_9) ∧ NLt (k_9) (ilen [(-181 : Int), (iadd (geti l1_4 (k_6)) (1 : Int))])) ∧ ((true = true) ∧ (True) ∧ ((NLe 0 (k_6) ∧ NLt (k_6) (ilen l1_3)) ∧ (NLt (k_6) (ilen l1_3)) ∧ (true = true) ∧ ((True) ∧ True) ∧ (True) ∧ L_spec_l20Arm_1 r2 l1_2 l1_3 k_6 l1_4 k_9 r1 q_5))))))))))))))))))) ∧ ((ieq (k_7) (1 : Int)) = false → ((true = true) ∧ ((True) ∧ (True) ∧ True) ∧ ((ieq (k_7) (2 : Int)) = true → ((true = true) ∧ ((True) ∧ (True) ∧ True) ∧ (NLe 0 (1 : Int) ∧ NLe (1 : Int) (ilen l1_4)) ∧ (True) ∧ (True) ∧ (true = true) ∧ ((True) ∧ True) ∧ (True) ∧ L_spec_l20Arm_2 r2 l1_2 l1_3 l1_4 r1 q_5)) ∧ ((ieq (k_7) (2 : Int)) = false → (∃ (I2 : List GV → Prop) (μ2 : List GV → Nat), (((true = true) ∧ ((((ieq (k_7) (2 : Int)) : Bool) = (ieq (k_7) (2 : Int))) ∧ (((ieq (k_7) (2 : Int)) : Bool) = (ieq (k_7) (2 : Int))) ∧ (((ieq (k_7) (1 : Int)) : Bool) = (ieq (k_7) (1 : Int))) ∧ (((ieq (k_7) (1 : Int)) : Bool) = (ieq (k_7) (1 : Int))) ∧ (((ieq (k_7) (0 : Int)) : Bool) = (ieq (k_7) (0 : Int))) ∧ (((ieq (k_7) (0 : Int)) : Bool) = (ieq (k_7) (0 : Int))) ∧ (((k_7) : Int) = (k_7)) ∧ (true = true) ∧ (((k_6) : Int) = (k_6)) ∧ (((k_6) : Int) = (k_6)) ∧ (true = true) ∧ ((m : Int) = m) ∧ (((b_4) : Bool) = (b_4)) ∧ (true = true) ∧ ((n : Int) = n) ∧ ((i1_0 : Int) = i1_0) ∧ ((m : Int) = m) ∧ (((ilt i1_0 m) : Bool) = (ilt i1_0 m)) ∧ ((i1_0 : Int) = i1_0) ∧ ((True) ∧ (True) ∧ (True) ∧ True) ∧ (true = true) ∧ (true = true) ∧ (true = true) ∧ ((m : Int) = m) ∧ ((n : Int) = n) ∧ True) ∧ (((true = true) ∧ ((Cont.ints l1_2) = (Cont.ints l1_2))) ∧ ((true = true) ∧ (true = true) ∧ (true = true) ∧ True) ∧ (((r1 : Int) = r1) ∧ (((((q_5) + 1) + 1) : Int) = (((q_5) + 1) + 1)) ∧ True) ∧ ((true = true) ∧ ((Cont.ints l1_4) = (Cont.ints l1_4))) ∧ ((true = true) ∧ ((Cont.ints l1_3) = (Cont.ints l1_3))) ∧ ((True) ∧ (True) ∧ (True) ∧ True) ∧ True)) ∧ (([GK.ints] : List GK) = ([GK.ints] : List GK)) ∧ I2 [GV.ints l1_2]) ∧ (∀ l2_0 : List Int, I2 [GV.ints l2_0] → ((true = true) ∧ ((True) ∧ (True) ∧ (True) ∧ (True) ∧ True) ∧ ((ile (ilen l2_0) (4 : Int)) = true → ((true = true) ∧ ((True) ∧ (True) ∧ (True) ∧ True) ∧ (NLe (ilen l2_0) 1000000000 ∧ NLe (ilen [(5 : Int)]) 1000000000) ∧ (True) ∧ (True) ∧ ((true = true) ∧ ((((ieq (k_7) (2 : Int)) : Bool) = (ieq (k_7) (2 : Int))) ∧ (((ieq (k_7) (2 : Int)) : Bool) = (ieq (k_7) (2 : Int))) ∧ (((ieq (k_7) (1 : Int)) : Bool) = (ieq (k_7) (1 : Int))) ∧ (((ieq (k_7) (1 : Int)) : Bool) = (ieq (k_7) (1 : Int))) ∧ (((ieq (k_7) (0 : Int)) : Bool) = (ieq (k_7) (0 : Int))) ∧ (((ieq (k_7) (0 : Int)) : Bool) = (ieq (k_7) (0 : Int))) ∧ (((k_7) : Int) = (k_7)) ∧ (true = true) ∧ (((k_6) : Int) = (k_6)) ∧ (((k_6) : Int) = (k_6)) ∧ (true = true) ∧ ((m : Int) = m) ∧ (((b_4) : Bool) = (b_4)) ∧ (true = true) ∧ ((n : Int) = n) ∧ ((i1_0 : Int) = i1_0) ∧ ((m : Int) = m) ∧ (((ilt i1_0 m) : Bool) = (ilt i1_0 m)) ∧ ((i1_0 : Int) = i1_0) ∧ ((True) ∧ (True) ∧ (True) ∧ True) ∧ (true = true) ∧ (true = true) ∧ (true = true) ∧ ((m : Int) = m) ∧ ((n : Int) = n) ∧ True) ∧ (((true = true) ∧ ((Cont.ints (iapp l2_0 [(5 : Int)])) = (Cont.ints (iapp l2_0 [(5 : Int)])))) ∧ ((true = true) ∧ (true = true) ∧ (true = true) ∧ True) ∧ (((r1 : Int) = r1) ∧ (((((q_5) + 1) + 1) : Int) = (((q_5) + 1) + 1)) ∧ True) ∧ ((true = true) ∧ ((Cont.ints l1_4) = (Cont.ints l1_4))) ∧ ((true = true) ∧ ((Cont.ints l1_3) = (Cont.ints l1_3))) ∧ ((True) ∧ (True) ∧ (True) ∧ True) ∧ True)) ∧ ((([GK.ints] : List GK) = ([GK.ints] : List GK)) ∧ I2 [GV.ints (iapp l2_0 [(5 : Int)])] ∧ μ2 [GV.ints (iapp l2_0 [(5 : Int)])] < μ2 [GV.ints l2_0]))) ∧ ((ile (ilen l2_0) (4 : Int)) = false → ((true = true) ∧ ((True) ∧ True) ∧ (True) ∧ L_spec_l20Arm_3 r2 l2_0 l1_3 l1_4 r1 q_5)))))))))))))))))) ∧ ((b_4) = false → ((true = true) ∧ ((True) ∧ True) ∧ (True) ∧ L_spec_l20Arm_4 r2 l1_2 l1_3 l1_4 r1 q_5)))))))))) = (fun sg => ev sig_spec_l20Arm xs_spec_l20Arm Try.f58.ntmps (fun b => if b == 0 then [.v 8, .b 0, .b 7, .f 7 0 30, .f 7 1 30, .f 7 2 30] else if b == 3 then [.b 7, .f 7 0 30] else []) (codeOf Try.f58) 0 (initX (.box [.rdr r1, .int r2]) [.s (.int m), .s (.int n)]) (retX Try.f58.results.toList sg.kinds sg.post sg.ret sg.out)) (s_spec_l20Arm r1 r2 m n) := by kernel_rfl
set_option maxHeartbeats 4000000 in
theorem F_spec_l20Arm : FunX 58 g_spec_l20Arm := by
  refine fun_X (by kernel_rfl) Try.func58 rfl (by kernel_rfl) sig_spec_l20Arm_ok xs_spec_l20Arm_ok ?_
  intro bx avs sg h hn hl hlb
  unfold g_spec_l20Arm at h
  split at h
  · rename_i r1 r2 m n
    injection h with h; subst h
    refine ⟨by kernel_rfl, fun b => if b == 0 then [.v 8, .b 0, .b 7, .f 7 0 30, .f 7 1 30, .f 7 2 30] else if b == 3 then [.b 7, .f 7 0 30] else [], Eq.mp (V_spec_l20Arm r1 r2 m n) ?_⟩
    simp only [true_and, and_true, implies_true, and_self, forall_const, true_implies, lenA, lenL, SV.lenOK, Cont.lenOK, lenB, s_spec_l20Arm, L_spec_l20Arm_0, L_spec_l20Arm_1, L_spec_l20Arm_2, L_spec_l20Arm_3, L_spec_l20Arm_4] at hn hl hlb ⊢
    simp only [ilt_t, ilt_f, ile_t, ile_f, ieq_t, ieq_f, bnot_e, band_e, bite_and, bite_or, NLt_e, NLe_e, NNe_e, NIs_e, imax_e, imin_e, irem_e, Bool.not_eq_true', Bool.not_eq_false', Bool.and_eq_true, Bool.or_eq_true, Bool.or_eq_false_iff, Bool.and_eq_false_iff, Cont.pts.injEq, Cont.ints.injEq, Cont.bools.injEq, Cont.ptss.injEq, Cont.intss.injEq, Cont.boolss.injEq, true_and, and_true, implies_true, pickP]
    refine ⟨fun | [.int k, .int q, .ints x, .ints y, .ints z] => 0 ≤ k ∧ k ≤ m ∧ ilen x = k ∧ ilen y = k ∧ ilen z = k ∧ r2 ≤ q ∧ q ≤ r2 + 3 * k | _ => False, fun | .int k :: _ => (m - k).toNat | _ => 0, ⟨by omega, by omega, ilen_nil, ilen_nil, ilen_nil, by omega, by omega⟩, ?_⟩
    rintro k q x y z ⟨h1, h2, h3, h4, h5, h6, h7⟩
    have e1 : iadd k 1 = k + 1 := iadd_e (by omega) (by omega)
    rw [e1]
    refine ⟨fun hk => ?_, fun hk => ?_⟩
    · exact ⟨by omega, fun k1 hk1 => ⟨⟨by omega, by rw [ilen_one]; omega⟩, by omega, fun k2 hk2 => ⟨⟨by omega, by rw [ilen_one]; omega⟩, by omega, fun k3 hk3 => ⟨⟨by omega, by rw [ilen_one]; omega⟩, ⟨by omega, by omega, by rw [ilen_app, ilen_one]; omega, by rw [ilen_app, ilen_one]; omega, by rw [ilen_app, ilen_one]; omega, by omega, by omega⟩, by show (m - (k + 1)).toNat < (m - k).toNat; omega⟩⟩⟩⟩
    · have dz : ilen (idrop z 1) ≤ ilen z := by unfold ilen idrop; simp
      have two : ∀ a b : Int, ilen [a, b] = 2 := fun a b => by simp [ilen]
      refine ⟨by omega, fun b q5 hq => ⟨fun _ => ⟨by omega, fun k6 hk6 => ⟨by omega, fun k7 hk7 => ⟨fun _ => ⟨by omega, fun k8 hk8 => ⟨by rw [two]; omega, by omega, by omega, _, _, _, _, ⟨by rw [ilen_seti]; omega, by omega, by omega, by omega, by omega⟩, ⟨rfl, rfl, rfl⟩, rfl⟩⟩, fun _ => ⟨fun _ => ⟨by omega, by omega, by omega, fun k9 hk9 => ⟨by rw [two]; omega, by omega, by omega, _, _, _, _, ⟨by omega, by rw [ilen_seti]; omega, by omega, by omega, by omega⟩, ⟨rfl, rfl, rfl⟩, rfl⟩⟩, fun _ => ⟨fun _ => ⟨by omega, _, _, _, _, ⟨by omega, by omega, by omega, by omega, by omega⟩, ⟨rfl, rfl, rfl⟩, rfl⟩, fun _ => ?_⟩⟩⟩⟩⟩, fun _ => ⟨_, _, _, _, ⟨by omega, by omega, by omega, by omega, by omega⟩, ⟨rfl, rfl, rfl⟩, rfl⟩⟩⟩
      refine ⟨fun | [.ints l] => ilen l ≤ 5 | _ => False, fun | [.ints l] => (5 - ilen l).toNat | _ => 0, by show ilen x ≤ 5; omega, ?_⟩
      intro l hl5
      have hl5' : ilen l ≤ 5 := hl5
      exact ⟨fun h => ⟨⟨by omega, by rw [ilen_one]; omega⟩, by show ilen (iapp l [5]) ≤ 5; rw [ilen_app, ilen_one]; omega, by show (5 - ilen (iapp l [5])).toNat < (5 - ilen l).toNat; rw [ilen_app, ilen_one]; omega⟩, fun h => ⟨_, _, _, _, ⟨by omega, by omega, by omega, by omega, by omega⟩, ⟨rfl, rfl, rfl⟩, rfl⟩⟩
  · cases h
def s_spec_l20Step (r1 : Int) (r2 : Int) : SgX := ⟨r1 ≤ 2000 ∧ 0 ≤ r2 ∧ r2 ≤ 100000, [.int], (fun | [.int s] => 0 ≤ s ∧ s ≤ 361 | _ => False), (fun | [.int s] => [.s (.int (s))] | _ => []), (fun | [.int s] => .box [.rdr r1, .int (r2 + 1)] | _ => .box [])⟩
def g_spec_l20Step : Bx → List AV → Option SgX
  | .box [.rdr r1, .int r2], [] => some (s_spec_l20Step r1 r2)
  | _, _ => none
def sig_spec_l20Step : FuncId → List AV → Option Sg := sigL []
def xs_spec_l20Step : XS := ⟨xsigL [(64, g_spec_l20Rd_pick)], ysigL []⟩
theorem sig_spec_l20Step_ok : SigOK sig_spec_l20Step := sigL_nil
theorem xs_spec_l20Step_ok : XSigOK xs_spec_l20Step := ⟨xsigL_cons F_spec_l20Rd_pick xsigL_nil, ysigL_nil⟩
def L_spec_l20Step_0 (k_10 : Int) (r1 : Int) (r2 : Int) : Prop := ∃ s : Int, ((0 ≤ s ∧ s ≤ 361) ∧ ((((geti [(5 : Int), (10 : Int), (15 : Int), (30 : Int), (0 : Int), (361 : Int), (1 : Int)] (geti [(0 : Int), (0 : Int), (1 : Int), (1 : Int), (2 : Int), (3 : Int), (4 : Int), (5 : Int), (6 : Int)] (k_10))) : Int) = (s)) ∧ True) ∧ ((true = true) ∧ (true = true) ∧ ((r1 : Int) = r1) ∧ (((r2 + 1) : Int) = (r2 + 1)) ∧ True))
theorem V_spec_l20Step (r1 : Int) (r2 : Int) : ((true = true) ∧ ((True) ∧ True) ∧ (true = true) ∧ ((True) ∧ (True) ∧ (True) ∧ True) ∧ (true = true) ∧ ((r1 ≤ 2000 ∧ 0 ≤ r2 ∧ r2 ≤ 1000000)) ∧ (∀ k_10 : Int, ((pickP (9 : Int) k_10) → ((NLe 0 (k_10) ∧ NLt (k_10) (ilen [(0 : Int), (0 : Int), (1 : Int), (1 : Int), (2 : Int), (3 : Int), (4 : Int), (5 : Int), (6 : Int)])) ∧ (NLt (k_10) (ilen [(0 : Int), (0 : Int), (1 : Int), (1 : Int), (2 : Int), (3 : Int), (4 : Int), (5 : Int), (6 : Int)])) ∧ (NLe 0 (geti [(0 : Int), (0 : Int), (1 : Int), (1 : Int), (2 : Int), (3 : Int), (4 : Int), (5 : Int), (6 : Int)] (k_10)) ∧ NLt (geti [(0 : Int), (0 : Int), (1 : Int), (1 : Int), (2 : Int), (3 : Int), (4 : Int), (5 : Int), (6 : Int)] (k_10)) (ilen [(5 : Int), (10 : Int), (15 : Int), (30 : Int), (0 : Int), (361 : Int), (1 : Int)])) ∧ (NLt (geti [(0 : Int), (0 : Int), (1 : Int), (1 : Int), (2 : Int), (3 : Int), (4 : Int), (5 : Int), (6 : Int)] (k_10)) (ilen [(5 : Int), (10 : Int), (15 : Int), (30 : Int), (0 : Int), (361 : Int), (1 : Int)])) ∧ (True) ∧ L_spec_l20Step_0 k_10 r1 r2)))) = (fun sg => ev sig_spec_l20Step xs_spec_l20Step Try.f60.ntmps (fun b => []) (codeOf Try.f60) 0 (initX (.box [.rdr r1, .int r2]) []) (retX Try.f60.results.toList sg.kinds sg.post sg.ret sg.out)) (s_spec_l20Step r1 r2) := by kernel_rfl
set_option maxHeartbeats 4000000 in
theorem F_spec_l20Step : FunX 60 g_spec_l20Step := by
  refine fun_X (by kernel_rfl) Try.func60 rfl (by kernel_rfl) sig_spec_l20Step_ok xs_spec_l20Step_ok ?_
  intro bx avs sg h hn hl hlb
  unfold g_spec_l20Step at h
  split at h
  · rename_i r1 r2
    injection h with h; subst h
    refine ⟨by kernel_rfl, fun b => [], Eq.mp (V_spec_l20Step r1 r2) ?_⟩
    simp only [true_and, and_true, implies_true, and_self, forall_const, true_implies, lenA, lenL, SV.lenOK, Cont.lenOK, lenB, s_spec_l20Step, L_spec_l20Step_0] at hn hl hlb ⊢
    try simp only [ilt_t, ilt_f, ile_t, ile_f, ieq_t, ieq_f, bnot_e, band_e, bite_and, bite_or, NLt_e, NLe_e, NNe_e, NIs_e, imax_e, imin_e, irem_e, Bool.not_eq_true', Bool.not_eq_false', Bool.and_eq_true, Bool.or_eq_true, Bool.or_eq_false_iff, Bool.and_eq_false_iff, Cont.pts.injEq, Cont.ints.injEq, Cont.bools.injEq, Cont.ptss.injEq, Cont.intss.injEq, Cont.boolss.injEq, true_and, and_true, implies_true, pickP, iadd_u, isub_u, imul_u, ineg_u, ilen_cons, ilen_nil, geti_cons, geti_nil, exists_and_left, exists_and_right, exists_eq_left, exists_eq_left', exists_eq_right, exists_eq_right'] at hn ⊢
    repeat' (first | (intro _) | (refine ⟨_, ?_, rfl, rfl⟩) | (apply And.intro) | omega | split)
    all_goals (first | (simp_all; done) | (simp_all; omega))
  · cases h
theorem inB_eq (n lo hi : Int) : inB n lo hi = (ile lo n && ile n hi) := by
  unfold inB ile
  by_cases h1 : lo ≤ n <;> by_cases h2 : n ≤ hi <;> simp [h1, h2]
def g_spec_l1In : List AV → Option Sg
  | [.s (.int n), .s (.int lo), .s (.int hi)] => some ⟨True, [.s (.bool (inB n lo hi))]⟩
  | _ => none
def sig_spec_l1In : FuncId → List AV → Option Sg := sigL []
def xs_spec_l1In : XS := ⟨xsigL [], ysigL []⟩
theorem sig_spec_l1In_ok : SigOK sig_spec_l1In := sigL_nil
theorem xs_spec_l1In_ok : XSigOK xs_spec_l1In := ⟨xsigL_nil, ysigL_nil⟩
theorem V_spec_l1In (n : Int) (lo : Int) (hi : Int) : ((true = true) ∧ ((True) ∧ True) ∧ (true = true) ∧ ((True) ∧ (True) ∧ (True) ∧ (True) ∧ (NIs (ile lo n) true → True) ∧ (NIs (ile lo n) true → True) ∧ (NIs (ile lo n) true → True) ∧ (True) ∧ (True) ∧ True) ∧ (((bite (ile lo n) (ile n hi) false) : Bool) = (inB n lo hi)) ∧ True) = ev sig_spec_l1In xs_spec_l1In Try.f65.ntmps (fun b => []) (codeOf Try.f65) 0 (initS [.s (.int n), .s (.int lo), .s (.int hi)]) (retK Try.f65.results.toList [.s (.bool (inB n lo hi))]) := by kernel_rfl
set_option maxHeartbeats 400000 in
theorem F_spec_l1In : FunOK 65 g_spec_l1In := by
  refine fun_F (by kernel_rfl) Try.func65 rfl (by kernel_rfl) sig_spec_l1In_ok xs_spec_l1In_ok ?_
  intro avs sg h hn hl
  unfold g_spec_l1In at h
  split at h
  · rename_i n lo hi
    injection h with h; subst h
    refine ⟨by kernel_rfl, fun b => [], Eq.mp (V_spec_l1In n lo hi) ?_⟩
    simp only [true_and, and_true, implies_true, and_self, forall_const, true_implies, lenA, lenL, SV.lenOK, Cont.lenOK] at hn hl ⊢
    simp only [bite_and, inB_eq]
  · cases h
def armE (a1 a2 a3 : List Int) (k : Int) : Bool := inB (geti a1 k) 1 500 && inB (geti a2 k) (-180) 180 && inB (geti a3 k) (geti a2 k) 180
def armB (a1 a2 a3 : List Int) : Bool := inB (ilen a1) 1 4 && decide (ilen a2 = ilen a1) && decide (ilen a3 = ilen a1) && allN (ilen a1) (armE a1 a2 a3)
def crW (a1 a2 b1 b2 c1 c2 : Int) : Int := isub (imul (isub b1 a1) (isub c2 a2)) (imul (isub b2 a2) (isub c1 a1))
def cr (l : List Pt) (i j k : Int) : Int := crW (getx l i) (gety l i) (getx l j) (gety l j) (getx l k) (gety l k)
def nx (l : List Pt) (i : Int) : Int := (i + 1).tmod (ilen l)
def convE (l : List Pt) (i j : Int) : Bool := decide (j = i ∨ j = nx l i ∨ 0 < cr l i (nx l i) j)
def convB (l : List Pt) : Bool := inB (ilen l) 3 8 && allB l && allN (ilen l) fun i => allN (ilen l) fun j => convE l i j
theorem nx_in {l : List Pt} {i : Int} (h0 : 0 ≤ i) (h1 : i < ilen l) : 0 ≤ nx l i ∧ nx l i < ilen l ∧ ((i + 1 < ilen l ∧ nx l i = i + 1) ∨ (i + 1 = ilen l ∧ nx l i = 0)) := by
  have e : nx l i = (i + 1) % ilen l := Int.tmod_eq_emod_of_nonneg (by omega)
  rcases Int.lt_or_le (i + 1) (ilen l) with h | h
  · rw [e, Int.emod_eq_of_lt (by omega) h]; omega
  · have h2 : i + 1 = ilen l := by omega
    rw [e, h2, Int.emod_self]; omega
theorem allN_up {f : Int → Bool} {k : Int} (h : ∀ j, 0 ≤ j → j < k → f j = true) (hk : f k = true) : ∀ j, 0 ≤ j → j < k + 1 → f j = true := by
  intro j h0 h1
  rcases Int.lt_or_le j k with h2 | h2
  · exact h j h0 h2
  · rw [show j = k by omega]; exact hk
theorem upTo {P : Int → Prop} {k : Int} (h : ∀ j, 0 ≤ j → j < k → P j) (hk : P k) : ∀ j, 0 ≤ j → j < k + 1 → P j := by
  intro j h0 h1
  rcases Int.lt_or_le j k with h2 | h2
  · exact h j h0 h2
  · rw [show j = k by omega]; exact hk
theorem iadd_1 {k n : Int} (h0 : 0 ≤ k) (h1 : k < n) (h2 : n ≤ 9223372036854775807) : iadd k 1 = k + 1 := iadd_e (by omega) (by omega)
def g_spec_ArmValid : List AV → Option Sg
  | [.agg [.view (.ints a1), .view (.ints a2), .view (.ints a3)]] => some ⟨True, [.s (.bool (armB a1 a2 a3))]⟩
  | _ => none
def sig_spec_ArmValid : FuncId → List AV → Option Sg := sigL [(65, g_spec_l1In)]
def xs_spec_ArmValid : XS := ⟨xsigL [], ysigL []⟩
theorem sig_spec_ArmValid_ok : SigOK sig_spec_ArmValid := sigL_cons F_spec_l1In sigL_nil
theorem xs_spec_ArmValid_ok : XSigOK xs_spec_ArmValid := ⟨xsigL_nil, ysigL_nil⟩
theorem V_spec_ArmValid (a1 : List Int) (a2 : List Int) (a3 : List Int) : ((true = true) ∧ ((True) ∧ (True) ∧ True) ∧ (true = true) ∧ ((True) ∧ (True) ∧ (True) ∧ (True) ∧ True) ∧ (true = true) ∧ ((True) ∧ ((True)) ∧ (True) ∧ (True) ∧ (NIs (bnot (inB (ilen a1) (1 : Int) (4 : Int))) false → True) ∧ (NIs (bnot (inB (ilen a1) (1 : Int) (4 : Int))) false → True) ∧ (NIs (bnot (inB (ilen a1) (1 : Int) (4 : Int))) false → True) ∧ (NIs (bnot (inB (ilen a1) (1 : Int) (4 : Int))) false → True) ∧ (NIs (bnot (inB (ilen a1) (1 : Int) (4 : Int))) false → True) ∧ (True) ∧ (True) ∧ (NIs (bite (bnot (inB (ilen a1) (1 : Int) (4 : Int))) true (bnot (ieq (ilen a2) (ilen a1)))) false → True) ∧ (NIs (bite (bnot (inB (ilen a1) (1 : Int) (4 : Int))) true (bnot (ieq (ilen a2) (ilen a1)))) false → True) ∧ (NIs (bite (bnot (inB (ilen a1) (1 : Int) (4 : Int))) true (bnot (ieq (ilen a2) (ilen a1)))) false → True) ∧ (NIs (bite (bnot (inB (ilen a1) (1 : Int) (4 : Int))) true (bnot (ieq (ilen a2) (ilen a1)))) false → True) ∧ (NIs (bite (bnot (inB (ilen a1) (1 : Int) (4 : Int))) true (bnot (ieq (ilen a2) (ilen a1)))) false → True) ∧ (True) ∧ True) ∧ ((bite (bite (bnot (inB (ilen a1) (1 : Int) (4 : Int))) true (bnot (ieq (ilen a2) (ilen a1)))) true (bnot (ieq (ilen a3) (ilen a1)))) = true → ((true = true) ∧ ((True) ∧ True) ∧ ((false : Bool) = (armB a1 a2 a3)) ∧ True)) ∧ ((bite (bite (bnot (inB (ilen a1) (1 : Int) (4 : Int))) true (bnot (ieq (ilen a2) (ilen a1)))) true (bnot (ieq (ilen a3) (ilen a1)))) = false → ((true = true) ∧ ((True) ∧ True) ∧ ∃ (I1 : List GV → Prop) (μ1 : List GV → Nat), (((true = true) ∧ (((false : Bool) = false) ∧ (((0 : Int) : Int) = (0 : Int)) ∧ (((ilen a1) : Int) = (ilen a1)) ∧ (((inB (ilen a1) (1 : Int) (4 : Int)) : Bool) = (inB (ilen a1) (1 : Int) (4 : Int))) ∧ (((bnot (inB (ilen a1) (1 : Int) (4 : Int))) : Bool) = (bnot (inB (ilen a1) (1 : Int) (4 : Int)))) ∧ (((bnot (inB (ilen a1) (1 : Int) (4 : Int))) : Bool) = (bnot (inB (ilen a1) (1 : Int) (4 : Int)))) ∧ (((bite (bnot (inB (ilen a1) (1 : Int) (4 : Int))) true (bnot (ieq (ilen a2) (ilen a1)))) : Bool) = (bite (bnot (inB (ilen a1) (1 : Int) (4 : Int))) true (bnot (ieq (ilen a2) (ilen a1))))) ∧ (((bite (bnot (inB (ilen a1) (1 : Int) (4 : Int))) true (bnot (ieq (ilen a2) (ilen a1)))) : Bool) = (bite (bnot (inB (ilen a1) (1 : Int) (4 : Int))) true (bnot (ieq (ilen a2) (ilen a1))))) ∧ (((bite (bite (bnot (inB (ilen a1) (1 : Int) (4 : Int))) true (bnot (ieq (ilen a2) (ilen a1)))) true (bnot (ieq (ilen a3) (ilen a1)))) : Bool) = (bite (bite (bnot (inB (ilen a1) (1 : Int) (4 : Int))) true (bnot (ieq (ilen a2) (ilen a1)))) true (bnot (ieq (ilen a3) (ilen a1))))) ∧ (true = true) ∧ ((Cont.ints a1) = (Cont.ints a1)) ∧ (((ilen a1) : Int) = (ilen a1)) ∧ (((ilen a1) : Int) = (ilen a1)) ∧ (true = true) ∧ (((Cont.ints a1) = (Cont.ints a1)) ∧ ((Cont.ints a2) = (Cont.ints a2)) ∧ ((Cont.ints a3) = (Cont.ints a3)) ∧ True) ∧ True) ∧ ((((Cont.ints a1) = (Cont.ints a1)) ∧ ((Cont.ints a2) = (Cont.ints a2)) ∧ ((Cont.ints a3) = (Cont.ints a3)) ∧ True) ∧ True)) ∧ (([GK.int, GK.bool] : List GK) = ([GK.int, GK.bool] : List GK)) ∧ I1 [GV.int (0 : Int), GV.bool false]) ∧ (∀ i1_0 : Int, ∀ b1_1 : Bool, I1 [GV.int i1_0, GV.bool b1_1] → ((true = true) ∧ ((True) ∧ (True) ∧ (True) ∧ True) ∧ ((ilt i1_0 (ilen a1)) = true → ((true = true) ∧ ((True) ∧ (True) ∧ (True) ∧ (NLe 0 i1_0 ∧ NLt i1_0 (ilen a1)) ∧ (True) ∧ ((True)) ∧ (True) ∧ (True) ∧ (NIs (bnot (inB (geti a1 i1_0) (1 : Int) (500 : Int))) false → True) ∧ (NIs (bnot (inB (geti a1 i1_0) (1 : Int) (500 : Int))) false → True) ∧ (NIs (bnot (inB (geti a1 i1_0) (1 : Int) (500 : Int))) false → True) ∧ (NIs (bnot (inB (geti a1 i1_0) (1 : Int) (500 : Int))) false → (NLe 0 i1_0 ∧ NLt i1_0 (ilen a2))) ∧ (NIs (bnot (inB (geti a1 i1_0) (1 : Int) (500 : Int))) false → True) ∧ (NIs (bnot (inB (geti a1 i1_0) (1 : Int) (500 : Int))) false → (True)) ∧ (NIs (bnot (inB (geti a1 i1_0) (1 : Int) (500 : Int))) false → True) ∧ (True) ∧ (True) ∧ (NIs (bite (bnot (inB (geti a1 i1_0) (1 : Int) (500 : Int))) true (bnot (inB (geti a2 i1_0) (-180 : Int) (180 : Int)))) false → True) ∧ (NIs (bite (bnot (inB (geti a1 i1_0) (1 : Int) (500 : Int))) true (bnot (inB (geti a2 i1_0) (-180 : Int) (180 : Int)))) false → True) ∧ (NIs (bite (bnot (inB (geti a1 i1_0) (1 : Int) (500 : Int))) true (bnot (inB (geti a2 i1_0) (-180 : Int) (180 : Int)))) false → True) ∧ (NIs (bite (bnot (inB (geti a1 i1_0) (1 : Int) (500 : Int))) true (bnot (inB (geti a2 i1_0) (-180 : Int) (180 : Int)))) false → (NLe 0 i1_0 ∧ NLt i1_0 (ilen a3))) ∧ (NIs (bite (bnot (inB (geti a1 i1_0) (1 : Int) (500 : Int))) true (bnot (inB (geti a2 i1_0) (-180 : Int) (180 : Int)))) false → True) ∧ (NIs (bite (bnot (inB (geti a1 i1_0) (1 : Int) (500 : Int))) true (bnot (inB (geti a2 i1_0) (-180 : Int) (180 : Int)))) false → True) ∧ (NIs (bite (bnot (inB (geti a1 i1_0) (1 : Int) (500 : Int))) true (bnot (inB (geti a2 i1_0) (-180 : Int) (180 : Int)))) false → True) ∧ (NIs (bite (bnot (inB (geti a1 i1_0) (1 : Int) (500 : Int))) true (bnot (inB (geti a2 i1_0) (-180 : Int) (180 : Int)))) false → True) ∧ (NIs (bite (bnot (inB (geti a1 i1_0) (1 : Int) (500 : Int))) true (bnot (inB (geti a2 i1_0) (-180 : Int) (180 : Int)))) false → (NLe 0 i1_0 ∧ NLt i1_0 (ilen a2))) ∧ (NIs (bite (bnot (inB (geti a1 i1_0) (1 : Int) (500 : Int))) true (bnot (inB (geti a2 i1_0) (-180 : Int) (180 : Int)))) false → True) ∧ (NIs (bite (bnot (inB (geti a1 i1_0) (1 : Int) (500 : Int))) true (bnot (inB (geti a2 i1_0) (-180 : Int) (180 : Int)))) false → (True)) ∧ (NIs (bite (bnot (inB (geti a1 i1_0) (1 : Int) (500 : Int))) true (bnot (inB (geti a2 i1_0) (-180 : Int) (180 : Int)))) false → True) ∧ (True) ∧ True) ∧ ((bite (bite (bnot (inB (geti a1 i1_0) (1 : Int) (500 : Int))) true (bnot (inB (geti a2 i1_0) (-180 : Int) (180 : Int)))) true (bnot (inB (geti a3 i1_0) (geti a2 i1_0) (180 : Int)))) = true → ((true = true) ∧ ((True) ∧ True) ∧ ((false : Bool) = (armB a1 a2 a3)) ∧ True)) ∧ ((bite (bite (bnot (inB (geti a1 i1_0) (1 : Int) (500 : Int))) true (bnot (inB (geti a2 i1_0) (-180 : Int) (180 : Int)))) true (bnot (inB (geti a3 i1_0) (geti a2 i1_0) (180 : Int)))) = false → ((true = true) ∧ ((True) ∧ (True) ∧ (True) ∧ True) ∧ ((true = true) ∧ (((b1_1 : Bool) = b1_1) ∧ (((iadd i1_0 (1 : Int)) : Int) = (iadd i1_0 (1 : Int))) ∧ (((ilen a1) : Int) = (ilen a1)) ∧ (((inB (ilen a1) (1 : Int) (4 : Int)) : Bool) = (inB (ilen a1) (1 : Int) (4 : Int))) ∧ (((bnot (inB (ilen a1) (1 : Int) (4 : Int))) : Bool) = (bnot (inB (ilen a1) (1 : Int) (4 : Int)))) ∧ (((bnot (inB (ilen a1) (1 : Int) (4 : Int))) : Bool) = (bnot (inB (ilen a1) (1 : Int) (4 : Int)))) ∧ (((bite (bnot (inB (ilen a1) (1 : Int) (4 : Int))) true (bnot (ieq (ilen a2) (ilen a1)))) : Bool) = (bite (bnot (inB (ilen a1) (1 : Int) (4 : Int))) true (bnot (ieq (ilen a2) (ilen a1))))) ∧ (((bite (bnot (inB (ilen a1) (1 : Int) (4 : Int))) true (bnot (ieq (ilen a2) (ilen a1)))) : Bool) = (bite (bnot (inB (ilen a1) (1 : Int) (4 : Int))) true (bnot (ieq (ilen a2) (ilen a1))))) ∧ (((bite (bite (bnot (inB (ilen a1) (1 : Int) (4 : Int))) true (bnot (ieq (ilen a2) (ilen a1)))) true (bnot (ieq (ilen a3) (ilen a1)))) : Bool) = (bite (bite (bnot (inB (ilen a1) (1 : Int) (4 : Int))) true (bnot (ieq (ilen a2) (ilen a1)))) true (bnot (ieq (ilen a3) (ilen a1))))) ∧ (true = true) ∧ ((Cont.ints a1) = (Cont.ints a1)) ∧ (((ilen a1) : Int) = (ilen a1)) ∧ (((ilen a1) : Int) = (ilen a1)) ∧ (true = true) ∧ (((Cont.ints a1) = (Cont.ints a1)) ∧ ((Cont.ints a2) = (Cont.ints a2)) ∧ ((Cont.ints a3) = (Cont.ints a3)) ∧ True) ∧ True) ∧ ((((Cont.ints a1) = (Cont.ints a1)) ∧ ((Cont.ints a2) = (Cont.ints a2)) ∧ ((Cont.ints a3) = (Cont.ints a3)) ∧ True) ∧ True)) ∧ ((([GK.int, GK.bool] : List GK) = ([GK.int, GK.bool] : List GK)) ∧ I1 [GV.int (iadd i1_0 (1 : Int)), GV.bool b1_1] ∧ μ1 [GV.int (iadd i1_0 (1 : Int)), GV.bool b1_1] < μ1 [GV.int i1_0, GV.bool b1_1]))))) ∧ ((ilt i1_0 (ilen a1)) = false → ((true = true) ∧ ((True) ∧ True) ∧ ((true : Bool) = (armB a1 a2 a3)) ∧ True))))))) = ev sig_spec_ArmValid xs_spec_ArmValid Try.f77.ntmps (fun b => if b == 0 then [.v 4, .v 2] else []) (codeOf Try.f77) 0 (initS [.agg [.view (.ints a1), .view (.ints a2), .view (.ints a3)]]) (retK Try.f77.results.toList [.s (.bool (armB a1 a2 a3))]) := by kernel_rfl
set_option maxHeartbeats 400000 in
theorem F_spec_ArmValid : FunOK 77 g_spec_ArmValid := by
  refine fun_F (by kernel_rfl) Try.func77 rfl (by kernel_rfl) sig_spec_ArmValid_ok xs_spec_ArmValid_ok ?_
  intro avs sg h hn hl
  unfold g_spec_ArmValid at h
  split at h
  · rename_i a1 a2 a3
    injection h with h; subst h
    refine ⟨by kernel_rfl, fun b => if b == 0 then [.v 4, .v 2] else [], Eq.mp (V_spec_ArmValid a1 a2 a3) ?_⟩
    simp only [true_and, and_true, implies_true, and_self, forall_const, true_implies, lenA, lenL, SV.lenOK, Cont.lenOK] at hn hl ⊢
    have h0 := ilen_0 a1
    simp only [ilt_t, ilt_f, ile_t, ile_f, ieq_t, ieq_f, bnot_e, band_e, bite_and, bite_or, NLt_e, NLe_e, NNe_e, NIs_e, imax_e, imin_e, irem_e, Bool.not_eq_true', Bool.not_eq_false', Bool.and_eq_true, Bool.or_eq_true, Bool.or_eq_false_iff, Bool.and_eq_false_iff, Cont.pts.injEq, Cont.ints.injEq, Cont.bools.injEq, Cont.ptss.injEq, Cont.intss.injEq, Cont.boolss.injEq, true_and, and_true, implies_true]
    refine ⟨fun h => ?_, fun h => ?_⟩
    · unfold armB
      rcases h with (h | h) | h <;> simp [h]
    · obtain ⟨⟨c1, c2⟩, c3⟩ := h
      refine ⟨fun | .int k :: _ => 0 ≤ k ∧ k ≤ ilen a1 ∧ (∀ j, 0 ≤ j → j < k → armE a1 a2 a3 j = true) | _ => False, fun | .int k :: _ => (ilen a1 - k).toNat | _ => 0, ?_, ?_⟩
      · exact ⟨Int.le_refl 0, h0, fun j h0 h1 => absurd h1 (by omega)⟩
      · rintro k _ ⟨hk0, hk1, hk⟩
        simp only [ilt_t, ilt_f, ile_t, ile_f, ieq_t, ieq_f, bnot_e, band_e, bite_and, bite_or, NLt_e, NLe_e, NNe_e, NIs_e, imax_e, imin_e, irem_e, Bool.not_eq_true', Bool.not_eq_false', Bool.and_eq_true, Bool.or_eq_true, Bool.or_eq_false_iff, Bool.and_eq_false_iff, Cont.pts.injEq, Cont.ints.injEq, Cont.bools.injEq, Cont.ptss.injEq, Cont.intss.injEq, Cont.boolss.injEq, true_and, and_true, implies_true]
        refine ⟨fun hc => ⟨⟨⟨hk0, hc⟩, fun _ => ⟨hk0, by omega⟩, fun _ => ⟨hk0, by omega⟩, fun _ => ⟨hk0, by omega⟩⟩, fun hv => ?_, fun hv => ?_⟩, fun hc => ?_⟩
        · have hE : armE a1 a2 a3 k = false := by unfold armE; rcases hv with (hv | hv) | hv <;> simp [hv]
          unfold armB; rw [allN_no k hk0 hc hE]; simp
        · have hE : armE a1 a2 a3 k = true := by unfold armE; rw [hv.1.1, hv.1.2, hv.2]; rfl
          rw [iadd_1 hk0 hc hl.1]
          exact ⟨⟨by omega, by omega, upTo hk hE⟩, by omega⟩
        · unfold armB; rw [allN_mk fun j h0 h1 => hk j h0 (by omega), c1]; simp [c2, c3]
  · cases h
def gsB (a1 a2 a3 : List Int) (s : Int) : Bool := armB a1 a2 a3 && decide (ilen a1 = 2) && inB s 1 360
def gsN (a2 a3 : List Int) (s i : Int) : Int := iadd (iquo (isub (geti a3 i) (geti a2 i)) s) 1
def gsK (a1 a2 a3 : List Int) (s i : Int) : Int := if gsB a1 a2 a3 s = true ∧ gsN a2 a3 s 0 ≤ 20 ∧ gsN a2 a3 s 1 ≤ 20 then gsN a2 a3 s i else 0
theorem armB_len {a1 a2 a3 : List Int} (h : armB a1 a2 a3 = true) : ilen a2 = ilen a1 ∧ ilen a3 = ilen a1 := by
  unfold armB at h
  simp only [Bool.and_eq_true, decide_eq_true_eq] at h
  exact ⟨h.1.1.2, h.1.2⟩
def g_spec_l11Size : List AV → Option Sg
  | [.agg [.view (.ints a1), .view (.ints a2), .view (.ints a3)], .s (.int s)] => some ⟨True, [.s (.int (gsK a1 a2 a3 s 0)), .s (.int (gsK a1 a2 a3 s 1))]⟩
  | _ => none
def sig_spec_l11Size : FuncId → List AV → Option Sg := sigL [(77, g_spec_ArmValid), (65, g_spec_l1In)]
def xs_spec_l11Size : XS := ⟨xsigL [], ysigL []⟩
theorem sig_spec_l11Size_ok : SigOK sig_spec_l11Size := sigL_cons F_spec_ArmValid (sigL_cons F_spec_l1In sigL_nil)
theorem xs_spec_l11Size_ok : XSigOK xs_spec_l11Size := ⟨xsigL_nil, ysigL_nil⟩
theorem V_spec_l11Size (a1 : List Int) (a2 : List Int) (a3 : List Int) (s : Int) : ((true = true) ∧ ((True) ∧ (True) ∧ (True) ∧ True) ∧ (true = true) ∧ ((True) ∧ ((True)) ∧ (True) ∧ (True) ∧ (NIs (bnot (armB a1 a2 a3)) false → True) ∧ (NIs (bnot (armB a1 a2 a3)) false → True) ∧ (NIs (bnot (armB a1 a2 a3)) false → True) ∧ (NIs (bnot (armB a1 a2 a3)) false → True) ∧ (True) ∧ (True) ∧ (NIs (bite (bnot (armB a1 a2 a3)) true (bnot (ieq (ilen a1) (2 : Int)))) false → True) ∧ (NIs (bite (bnot (armB a1 a2 a3)) true (bnot (ieq (ilen a1) (2 : Int)))) false → (True)) ∧ (NIs (bite (bnot (armB a1 a2 a3)) true (bnot (ieq (ilen a1) (2 : Int)))) false → True) ∧ (True) ∧ True) ∧ ((bite (bite (bnot (armB a1 a2 a3)) true (bnot (ieq (ilen a1) (2 : Int)))) true (bnot (inB s (1 : Int) (360 : Int)))) = true → ((true = true) ∧ ((True) ∧ (True) ∧ True) ∧ (((0 : Int) : Int) = (gsK a1 a2 a3 s 0)) ∧ (((0 : Int) : Int) = (gsK a1 a2 a3 s 1)) ∧ True)) ∧ ((bite (bite (bnot (armB a1 a2 a3)) true (bnot (ieq (ilen a1) (2 : Int)))) true (bnot (inB s (1 : Int) (360 : Int)))) = false → ((true = true) ∧ ((True) ∧ (True) ∧ (NLe 0 (0 : Int) ∧ NLt (0 : Int) (ilen a3)) ∧ (True) ∧ (True) ∧ (True) ∧ (NLe 0 (0 : Int) ∧ NLt (0 : Int) (ilen a2)) ∧ (True) ∧ (True) ∧ (True) ∧ (NNe s 0) ∧ (True) ∧ (True) ∧ True) ∧ (true = true) ∧ ((True) ∧ (True) ∧ (NLe 0 (1 : Int) ∧ NLt (1 : Int) (ilen a3)) ∧ (True) ∧ (True) ∧ (True) ∧ (NLe 0 (1 : Int) ∧ NLt (1 : Int) (ilen a2)) ∧ (True) ∧ (True) ∧ (True) ∧ (NNe s 0) ∧ (True) ∧ (True) ∧ True) ∧ (true = true) ∧ ((True) ∧ (True) ∧ (True) ∧ (NIs (ilt (20 : Int) (iadd (iquo (isub (geti a3 (0 : Int)) (geti a2 (0 : Int))) s) (1 : Int))) false → True) ∧ (NIs (ilt (20 : Int) (iadd (iquo (isub (geti a3 (0 : Int)) (geti a2 (0 : Int))) s) (1 : Int))) false → True) ∧ (True) ∧ True) ∧ ((bite (ilt (20 : Int) (iadd (iquo (isub (geti a3 (0 : Int)) (geti a2 (0 : Int))) s) (1 : Int))) true (ilt (20 : Int) (iadd (iquo (isub (geti a3 (1 : Int)) (geti a2 (1 : Int))) s) (1 : Int)))) = true → ((true = true) ∧ ((True) ∧ (True) ∧ True) ∧ (((0 : Int) : Int) = (gsK a1 a2 a3 s 0)) ∧ (((0 : Int) : Int) = (gsK a1 a2 a3 s 1)) ∧ True)) ∧ ((bite (ilt (20 : Int) (iadd (iquo (isub (geti a3 (0 : Int)) (geti a2 (0 : Int))) s) (1 : Int))) true (ilt (20 : Int) (iadd (iquo (isub (geti a3 (1 : Int)) (geti a2 (1 : Int))) s) (1 : Int)))) = false → ((true = true) ∧ ((True) ∧ (True) ∧ (True) ∧ (True) ∧ True) ∧ (((iadd (iquo (isub (geti a3 (0 : Int)) (geti a2 (0 : Int))) s) (1 : Int)) : Int) = (gsK a1 a2 a3 s 0)) ∧ (((iadd (iquo (isub (geti a3 (1 : Int)) (geti a2 (1 : Int))) s) (1 : Int)) : Int) = (gsK a1 a2 a3 s 1)) ∧ True))))) = ev sig_spec_l11Size xs_spec_l11Size Try.f53.ntmps (fun b => []) (codeOf Try.f53) 0 (initS [.agg [.view (.ints a1), .view (.ints a2), .view (.ints a3)], .s (.int s)]) (retK Try.f53.results.toList [.s (.int (gsK a1 a2 a3 s 0)), .s (.int (gsK a1 a2 a3 s 1))]) := by kernel_rfl
set_option maxHeartbeats 400000 in
theorem F_spec_l11Size : FunOK 53 g_spec_l11Size := by
  refine fun_F (by kernel_rfl) Try.func53 rfl (by kernel_rfl) sig_spec_l11Size_ok xs_spec_l11Size_ok ?_
  intro avs sg h hn hl
  unfold g_spec_l11Size at h
  split at h
  · rename_i a1 a2 a3 s
    injection h with h; subst h
    refine ⟨by kernel_rfl, fun b => [], Eq.mp (V_spec_l11Size a1 a2 a3 s) ?_⟩
    simp only [true_and, and_true, implies_true, and_self, forall_const, true_implies, lenA, lenL, SV.lenOK, Cont.lenOK] at hn hl ⊢
    simp only [ilt_t, ilt_f, ile_t, ile_f, ieq_t, ieq_f, bnot_e, band_e, bite_and, bite_or, NLt_e, NLe_e, NNe_e, NIs_e, imax_e, imin_e, irem_e, Bool.not_eq_true', Bool.not_eq_false', Bool.and_eq_true, Bool.or_eq_true, Bool.or_eq_false_iff, Bool.and_eq_false_iff, Cont.pts.injEq, Cont.ints.injEq, Cont.bools.injEq, Cont.ptss.injEq, Cont.intss.injEq, Cont.boolss.injEq, true_and, and_true, implies_true]
    refine ⟨fun h => ?_, fun h => ?_⟩
    · have hB : gsB a1 a2 a3 s = false := by unfold gsB; rcases h with (h | h) | h <;> simp [h]
      unfold gsK; simp [hB]
    · obtain ⟨⟨h1, h2⟩, h3⟩ := h
      obtain ⟨e1, e2⟩ := armB_len h1
      have hB : gsB a1 a2 a3 s = true := by unfold gsB; rw [h1, h3]; simp [h2]
      have hs := inB_true h3
      refine ⟨by omega, by omega, fun h => ?_, fun h => ?_⟩
      · have : ¬ (gsB a1 a2 a3 s = true ∧ gsN a2 a3 s 0 ≤ 20 ∧ gsN a2 a3 s 1 ≤ 20) := by rintro ⟨_, g1, g2⟩; unfold gsN at g1 g2; omega
        unfold gsK; rw [if_neg this, if_neg this]; exact ⟨rfl, rfl⟩
      · have : gsB a1 a2 a3 s = true ∧ gsN a2 a3 s 0 ≤ 20 ∧ gsN a2 a3 s 1 ≤ 20 := ⟨hB, h.1, h.2⟩
        unfold gsK; rw [if_pos this, if_pos this]; exact ⟨rfl, rfl⟩
  · cases h
def s_spec_DrawCellJoints (n : Int) : SgY := ⟨n ≤ 1048576, [.ints, .ints, .ints, .int, .int, .int], (fun | [.ints x, .ints y, .ints z, .int s, .int a, .int b] => ilen x ≤ 10 ∧ ilen y ≤ 10 ∧ ilen z ≤ 10 ∧ 0 ≤ s ∧ s ≤ 361 | _ => False), (fun | [.ints x, .ints y, .ints z, .int s, .int a, .int b] => [.agg [.view (.ints (x)), .view (.ints (y)), .view (.ints (z))], .s (.int (s)), .agg [.int (a), .int (b)]] | _ => [])⟩
def g_spec_DrawCellJoints : List AV → Option SgY
  | [.s (.rdr n)] => some (s_spec_DrawCellJoints n)
  | _ => none
def sig_spec_DrawCellJoints : FuncId → List AV → Option Sg := sigL [(57, g_spec_l20Open), (53, g_spec_l11Size)]
def xs_spec_DrawCellJoints : XS := ⟨xsigL [(58, g_spec_l20Arm), (60, g_spec_l20Step), (64, g_spec_l20Rd_pick)], ysigL []⟩
theorem sig_spec_DrawCellJoints_ok : SigOK sig_spec_DrawCellJoints := sigL_cons F_spec_l20Open (sigL_cons F_spec_l11Size sigL_nil)
theorem xs_spec_DrawCellJoints_ok : XSigOK xs_spec_DrawCellJoints := ⟨xsigL_cons F_spec_l20Arm (xsigL_cons F_spec_l20Step (xsigL_cons F_spec_l20Rd_pick xsigL_nil)), ysigL_nil⟩
def L_spec_DrawCellJoints_0 (x_11 : List Int) (y_12 : List Int) (z_13 : List Int) (s_15 : Int) (k_16 : Int) (k_17 : Int) (k_18 : Int) : Prop := ∃ x : List Int, ∃ y : List Int, ∃ z : List Int, ∃ s : Int, ∃ a : Int, ∃ b : Int, ((ilen x ≤ 10 ∧ ilen y ≤ 10 ∧ ilen z ≤ 10 ∧ 0 ≤ s ∧ s ≤ 361) ∧ ((((Cont.ints (x_11)) = (Cont.ints (x))) ∧ ((Cont.ints (y_12)) = (Cont.ints (y))) ∧ ((Cont.ints (z_13)) = (Cont.ints (z))) ∧ True) ∧ (((s_15) : Int) = (s)) ∧ ((((isub (k_16) (iquo (k_17) (2 : Int))) : Int) = (a)) ∧ (((k_18) : Int) = (b)) ∧ True) ∧ True))
theorem V_spec_DrawCellJoints (n : Int) : ((true = true) ∧ ((True) ∧ (True) ∧ (True) ∧ True) ∧ (true = true) ∧ ((True) ∧ ((n ≤ 1048576)) ∧ (True) ∧ True) ∧ (true = true) ∧ ((True) ∧ True) ∧ (true = true) ∧ (((if n ≤ 2000 then n else 2000) ≤ 2000 ∧ 0 ≤ ((0 : Int)) ∧ ((0 : Int)) ≤ 100000 ∧ 1 ≤ (2 : Int) ∧ (2 : Int) ≤ 4 ∧ -1000000 ≤ (14 : Int) ∧ (14 : Int) ≤ 1000000)) ∧ (∀ x_11 : List Int, ∀ y_12 : List Int, ∀ z_13 : List Int, ∀ q_14 : Int, ((ilen x_11 ≤ 10 ∧ ilen y_12 ≤ 10 ∧ ilen z_13 ≤ 10 ∧ ((0 : Int)) ≤ q_14 ∧ q_14 ≤ ((0 : Int)) + 100) → ((True) ∧ (True) ∧ (true = true) ∧ ((True) ∧ True) ∧ (true = true) ∧ (((if n ≤ 2000 then n else 2000) ≤ 2000 ∧ 0 ≤ (q_14) ∧ (q_14) ≤ 100000)) ∧ (∀ s_15 : Int, ((0 ≤ s_15 ∧ s_15 ≤ 361) → ((True) ∧ (true = true) ∧ ((True) ∧ (True) ∧ ((True)) ∧ (True) ∧ (True) ∧ (True) ∧ (True) ∧ (True) ∧ True) ∧ (true = true) ∧ ((true = true) ∧ (True) ∧ ((true = true) ∧ (True) ∧ ((true = true) ∧ (True) ∧ ((true = true) ∧ (True) ∧ ((true = true) ∧ (True) ∧ ((true = true) ∧ (True) ∧ ((true = true) ∧ (True) ∧ ((true = true) ∧ (True) ∧ ((true = true) ∧ (True) ∧ ((true = true) ∧ (((if n ≤ 2000 then n else 2000) ≤ 2000 ∧ 0 ≤ ((q_14) + 1) ∧ ((q_14) + 1) ≤ 1000000)) ∧ (∀ k_16 : Int, ((pickP (iadd (gsK (x_11) (y_12) (z_13) (s_15) 0) (2 : Int)) k_16) → ((true = true) ∧ (((if n ≤ 2000 then n else 2000) ≤ 2000 ∧ 0 ≤ (((q_14) + 1) + 1) ∧ (((q_14) + 1) + 1) ≤ 1000000)) ∧ (∀ k_17 : Int, ((pickP (3 : Int) k_17) → ((true = true) ∧ (NNe (2 : Int) 0) ∧ ((true = true) ∧ (True) ∧ ((true = true) ∧ (((if n ≤ 2000 then n else 2000) ≤ 2000 ∧ 0 ≤ ((((q_14) + 1) + 1) + 1) ∧ ((((q_14) + 1) + 1) + 1) ≤ 1000000)) ∧ (∀ k_18 : Int, ((pickP (iadd (gsK (x_11) (y_12) (z_13) (s_15) 1) (1 : Int)) k_18) → ((true = true) ∧ (True) ∧ ((true = true) ∧ (True) ∧ ((true = true) ∧ (True) ∧ ((True) ∧ L_spec_DrawCellJoints_0 x_11 y_12 z_13 s_15 k_16 k_17 k_18))))))))))))))))))))))))))))))) = (fun sg => ev sig_spec_DrawCellJoints xs_spec_DrawCellJoints Try.f29.ntmps (fun b => []) (codeOf Try.f29) 0 (initS [.s (.rdr n)]) (retY Try.f29.results.toList sg.kinds sg.post sg.ret)) (s_spec_DrawCellJoints n) := by kernel_rfl
set_option maxHeartbeats 400000 in
theorem F_spec_DrawCellJoints : FunY 29 g_spec_DrawCellJoints := by
  refine fun_Y (by kernel_rfl) Try.func29 rfl (by kernel_rfl) sig_spec_DrawCellJoints_ok xs_spec_DrawCellJoints_ok ?_
  intro avs sg h hn hl
  unfold g_spec_DrawCellJoints at h
  split at h
  · rename_i n
    injection h with h; subst h
    refine ⟨by kernel_rfl, fun b => [], Eq.mp (V_spec_DrawCellJoints n) ?_⟩
    simp only [true_and, and_true, implies_true, and_self, forall_const, true_implies, lenA, lenL, SV.lenOK, Cont.lenOK, s_spec_DrawCellJoints, L_spec_DrawCellJoints_0] at hn hl ⊢
    simp only [ilt_t, ilt_f, ile_t, ile_f, ieq_t, ieq_f, bnot_e, band_e, bite_and, bite_or, NLt_e, NLe_e, NNe_e, NIs_e, imax_e, imin_e, irem_e, Bool.not_eq_true', Bool.not_eq_false', Bool.and_eq_true, Bool.or_eq_true, Bool.or_eq_false_iff, Bool.and_eq_false_iff, Cont.pts.injEq, Cont.ints.injEq, Cont.bools.injEq, Cont.ptss.injEq, Cont.intss.injEq, Cont.boolss.injEq, true_and, and_true, implies_true]
    exact ⟨hn, by split <;> omega, fun x y z q hp => ⟨by split <;> omega, fun s hs => ⟨by split <;> omega, fun k1 hk1 => ⟨by split <;> omega, fun k2 hk2 => ⟨by omega, by split <;> omega, fun k3 hk3 => ⟨_, _, _, _, _, _, by omega, ⟨rfl, rfl, rfl⟩, rfl, rfl, rfl⟩⟩⟩⟩⟩⟩
  · cases h
def g_impl_within : List AV → Option Sg
  | [.s (.int n), .s (.int lo), .s (.int hi)] => some ⟨True, [.s (.bool (inB n lo hi))]⟩
  | _ => none
def sig_impl_within : FuncId → List AV → Option Sg := sigL []
def xs_impl_within : XS := ⟨xsigL [], ysigL []⟩
theorem sig_impl_within_ok : SigOK sig_impl_within := sigL_nil
theorem xs_impl_within_ok : XSigOK xs_impl_within := ⟨xsigL_nil, ysigL_nil⟩
theorem V_impl_within (n : Int) (lo : Int) (hi : Int) : ((true = true) ∧ ((True) ∧ True) ∧ (true = true) ∧ ((True) ∧ (True) ∧ (True) ∧ (True) ∧ (NIs (ile lo n) true → True) ∧ (NIs (ile lo n) true → True) ∧ (NIs (ile lo n) true → True) ∧ (True) ∧ (True) ∧ True) ∧ (((bite (ile lo n) (ile n hi) false) : Bool) = (inB n lo hi)) ∧ True) = ev sig_impl_within xs_impl_within Try.f56.ntmps (fun b => []) (codeOf Try.f56) 0 (initS [.s (.int n), .s (.int lo), .s (.int hi)]) (retK Try.f56.results.toList [.s (.bool (inB n lo hi))]) := by kernel_rfl
set_option maxHeartbeats 400000 in
theorem F_impl_within : FunOK 56 g_impl_within := by
  refine fun_F (by kernel_rfl) Try.func56 rfl (by kernel_rfl) sig_impl_within_ok xs_impl_within_ok ?_
  intro avs sg h hn hl
  unfold g_impl_within at h
  split at h
  · rename_i n lo hi
    injection h with h; subst h
    refine ⟨by kernel_rfl, fun b => [], Eq.mp (V_impl_within n lo hi) ?_⟩
    simp only [true_and, and_true, implies_true, and_self, forall_const, true_implies, lenA, lenL, SV.lenOK, Cont.lenOK] at hn hl ⊢
    simp only [bite_and, inB_eq]
  · cases h
def g_impl_ArmValid : List AV → Option Sg
  | [.agg [.view (.ints a1), .view (.ints a2), .view (.ints a3)]] => some ⟨True, [.s (.bool (armB a1 a2 a3))]⟩
  | _ => none
def sig_impl_ArmValid : FuncId → List AV → Option Sg := sigL [(56, g_impl_within)]
def xs_impl_ArmValid : XS := ⟨xsigL [], ysigL []⟩
theorem sig_impl_ArmValid_ok : SigOK sig_impl_ArmValid := sigL_cons F_impl_within sigL_nil
theorem xs_impl_ArmValid_ok : XSigOK xs_impl_ArmValid := ⟨xsigL_nil, ysigL_nil⟩
theorem V_impl_ArmValid (a1 : List Int) (a2 : List Int) (a3 : List Int) : ((true = true) ∧ ((True) ∧ (True) ∧ True) ∧ (true = true) ∧ ((True) ∧ (True) ∧ (True) ∧ (True) ∧ True) ∧ (true = true) ∧ ((True) ∧ ((True)) ∧ (True) ∧ (True) ∧ (NIs (bnot (inB (ilen a1) (1 : Int) (4 : Int))) false → True) ∧ (NIs (bnot (inB (ilen a1) (1 : Int) (4 : Int))) false → True) ∧ (NIs (bnot (inB (ilen a1) (1 : Int) (4 : Int))) false → True) ∧ (NIs (bnot (inB (ilen a1) (1 : Int) (4 : Int))) false → True) ∧ (NIs (bnot (inB (ilen a1) (1 : Int) (4 : Int))) false → True) ∧ (True) ∧ (True) ∧ (NIs (bite (bnot (inB (ilen a1) (1 : Int) (4 : Int))) true (bnot (ieq (ilen a2) (ilen a1)))) false → True) ∧ (NIs (bite (bnot (inB (ilen a1) (1 : Int) (4 : Int))) true (bnot (ieq (ilen a2) (ilen a1)))) false → True) ∧ (NIs (bite (bnot (inB (ilen a1) (1 : Int) (4 : Int))) true (bnot (ieq (ilen a2) (ilen a1)))) false → True) ∧ (NIs (bite (bnot (inB (ilen a1) (1 : Int) (4 : Int))) true (bnot (ieq (ilen a2) (ilen a1)))) false → True) ∧ (NIs (bite (bnot (inB (ilen a1) (1 : Int) (4 : Int))) true (bnot (ieq (ilen a2) (ilen a1)))) false → True) ∧ (True) ∧ True) ∧ ((bite (bite (bnot (inB (ilen a1) (1 : Int) (4 : Int))) true (bnot (ieq (ilen a2) (ilen a1)))) true (bnot (ieq (ilen a3) (ilen a1)))) = true → ((true = true) ∧ ((True) ∧ True) ∧ ((false : Bool) = (armB a1 a2 a3)) ∧ True)) ∧ ((bite (bite (bnot (inB (ilen a1) (1 : Int) (4 : Int))) true (bnot (ieq (ilen a2) (ilen a1)))) true (bnot (ieq (ilen a3) (ilen a1)))) = false → ((true = true) ∧ ((True) ∧ (True) ∧ True) ∧ ∃ (I1 : List GV → Prop) (μ1 : List GV → Nat), (((true = true) ∧ (((false : Bool) = false) ∧ (((0 : Int) : Int) = (0 : Int)) ∧ (((ilen a1) : Int) = (ilen a1)) ∧ (((ilen a1) : Int) = (ilen a1)) ∧ (((inB (ilen a1) (1 : Int) (4 : Int)) : Bool) = (inB (ilen a1) (1 : Int) (4 : Int))) ∧ (((bnot (inB (ilen a1) (1 : Int) (4 : Int))) : Bool) = (bnot (inB (ilen a1) (1 : Int) (4 : Int)))) ∧ (((bnot (inB (ilen a1) (1 : Int) (4 : Int))) : Bool) = (bnot (inB (ilen a1) (1 : Int) (4 : Int)))) ∧ (((bite (bnot (inB (ilen a1) (1 : Int) (4 : Int))) true (bnot (ieq (ilen a2) (ilen a1)))) : Bool) = (bite (bnot (inB (ilen a1) (1 : Int) (4 : Int))) true (bnot (ieq (ilen a2) (ilen a1))))) ∧ (((bite (bnot (inB (ilen a1) (1 : Int) (4 : Int))) true (bnot (ieq (ilen a2) (ilen a1)))) : Bool) = (bite (bnot (inB (ilen a1) (1 : Int) (4 : Int))) true (bnot (ieq (ilen a2) (ilen a1))))) ∧ (((bite (bite (bnot (inB (ilen a1) (1 : Int) (4 : Int))) true (bnot (ieq (ilen a2) (ilen a1)))) true (bnot (ieq (ilen a3) (ilen a1)))) : Bool) = (bite (bite (bnot (inB (ilen a1) (1 : Int) (4 : Int))) true (bnot (ieq (ilen a2) (ilen a1)))) true (bnot (ieq (ilen a3) (ilen a1))))) ∧ (true = true) ∧ ((Cont.ints a1) = (Cont.ints a1)) ∧ (((ilen a1) : Int) = (ilen a1)) ∧ (((ilen a1) : Int) = (ilen a1)) ∧ (true = true) ∧ (((Cont.ints a1) = (Cont.ints a1)) ∧ ((Cont.ints a2) = (Cont.ints a2)) ∧ ((Cont.ints a3) = (Cont.ints a3)) ∧ True) ∧ True) ∧ ((((Cont.ints a1) = (Cont.ints a1)) ∧ ((Cont.ints a2) = (Cont.ints a2)) ∧ ((Cont.ints a3) = (Cont.ints a3)) ∧ True) ∧ True)) ∧ (([GK.int, GK.bool] : List GK) = ([GK.int, GK.bool] : List GK)) ∧ I1 [GV.int (0 : Int), GV.bool false]) ∧ (∀ i1_0 : Int, ∀ b1_1 : Bool, I1 [GV.int i1_0, GV.bool b1_1] → ((true = true) ∧ ((True) ∧ True) ∧ ((ilt i1_0 (ilen a1)) = true → ((true = true) ∧ ((True) ∧ (True) ∧ True) ∧ (true = true) ∧ ((True) ∧ (True) ∧ (True) ∧ (NLe 0 i1_0 ∧ NLt i1_0 (ilen a1)) ∧ (True) ∧ ((True)) ∧ (True) ∧ (True) ∧ (NIs (bnot (inB (geti a1 i1_0) (1 : Int) (500 : Int))) false → True) ∧ (NIs (bnot (inB (geti a1 i1_0) (1 : Int) (500 : Int))) false → True) ∧ (NIs (bnot (inB (geti a1 i1_0) (1 : Int) (500 : Int))) false → True) ∧ (NIs (bnot (inB (geti a1 i1_0) (1 : Int) (500 : Int))) false → (NLe 0 i1_0 ∧ NLt i1_0 (ilen a2))) ∧ (NIs (bnot (inB (geti a1 i1_0) (1 : Int) (500 : Int))) false → True) ∧ (NIs (bnot (inB (geti a1 i1_0) (1 : Int) (500 : Int))) false → (True)) ∧ (NIs (bnot (inB (geti a1 i1_0) (1 : Int) (500 : Int))) false → True) ∧ (True) ∧ (True) ∧ (NIs (bite (bnot (inB (geti a1 i1_0) (1 : Int) (500 : Int))) true (bnot (inB (geti a2 i1_0) (-180 : Int) (180 : Int)))) false → True) ∧ (NIs (bite (bnot (inB (geti a1 i1_0) (1 : Int) (500 : Int))) true (bnot (inB (geti a2 i1_0) (-180 : Int) (180 : Int)))) false → True) ∧ (NIs (bite (bnot (inB (geti a1 i1_0) (1 : Int) (500 : Int))) true (bnot (inB (geti a2 i1_0) (-180 : Int) (180 : Int)))) false → True) ∧ (NIs (bite (bnot (inB (geti a1 i1_0) (1 : Int) (500 : Int))) true (bnot (inB (geti a2 i1_0) (-180 : Int) (180 : Int)))) false → (NLe 0 i1_0 ∧ NLt i1_0 (ilen a3))) ∧ (NIs (bite (bnot (inB (geti a1 i1_0) (1 : Int) (500 : Int))) true (bnot (inB (geti a2 i1_0) (-180 : Int) (180 : Int)))) false → True) ∧ (NIs (bite (bnot (inB (geti a1 i1_0) (1 : Int) (500 : Int))) true (bnot (inB (geti a2 i1_0) (-180 : Int) (180 : Int)))) false → True) ∧ (NIs (bite (bnot (inB (geti a1 i1_0) (1 : Int) (500 : Int))) true (bnot (inB (geti a2 i1_0) (-180 : Int) (180 : Int)))) false → True) ∧ (NIs (bite (bnot (inB (geti a1 i1_0) (1 : Int) (500 : Int))) true (bnot (inB (geti a2 i1_0) (-180 : Int) (180 : Int)))) false → True) ∧ (NIs (bite (bnot (inB (geti a1 i1_0) (1 : Int) (500 : Int))) true (bnot (inB (geti a2 i1_0) (-180 : Int) (180 : Int)))) false → (NLe 0 i1_0 ∧ NLt i1_0 (ilen a2))) ∧ (NIs (bite (bnot (inB (geti a1 i1_0) (1 : Int) (500 : Int))) true (bnot (inB (geti a2 i1_0) (-180 : Int) (180 : Int)))) false → True) ∧ (NIs (bite (bnot (inB (geti a1 i1_0) (1 : Int) (500 : Int))) true (bnot (inB (geti a2 i1_0) (-180 : Int) (180 : Int)))) false → (True)) ∧ (NIs (bite (bnot (inB (geti a1 i1_0) (1 : Int) (500 : Int))) true (bnot (inB (geti a2 i1_0) (-180 : Int) (180 : Int)))) false → True) ∧ (True) ∧ True) ∧ ((bite (bite (bnot (inB (geti a1 i1_0) (1 : Int) (500 : Int))) true (bnot (inB (geti a2 i1_0) (-180 : Int) (180 : Int)))) true (bnot (inB (geti a3 i1_0) (geti a2 i1_0) (180 : Int)))) = true → ((true = true) ∧ ((True) ∧ True) ∧ ((false : Bool) = (armB a1 a2 a3)) ∧ True)) ∧ ((bite (bite (bnot (inB (geti a1 i1_0) (1 : Int) (500 : Int))) true (bnot (inB (geti a2 i1_0) (-180 : Int) (180 : Int)))) true (bnot (inB (geti a3 i1_0) (geti a2 i1_0) (180 : Int)))) = false → ((true = true) ∧ ((True) ∧ (True) ∧ True) ∧ ((true = true) ∧ (((b1_1 : Bool) = b1_1) ∧ (((iadd i1_0 (1 : Int)) : Int) = (iadd i1_0 (1 : Int))) ∧ (((ilen a1) : Int) = (ilen a1)) ∧ (((ilen a1) : Int) = (ilen a1)) ∧ (((inB (ilen a1) (1 : Int) (4 : Int)) : Bool) = (inB (ilen a1) (1 : Int) (4 : Int))) ∧ (((bnot (inB (ilen a1) (1 : Int) (4 : Int))) : Bool) = (bnot (inB (ilen a1) (1 : Int) (4 : Int)))) ∧ (((bnot (inB (ilen a1) (1 : Int) (4 : Int))) : Bool) = (bnot (inB (ilen a1) (1 : Int) (4 : Int)))) ∧ (((bite (bnot (inB (ilen a1) (1 : Int) (4 : Int))) true (bnot (ieq (ilen a2) (ilen a1)))) : Bool) = (bite (bnot (inB (ilen a1) (1 : Int) (4 : Int))) true (bnot (ieq (ilen a2) (ilen a1))))) ∧ (((bite (bnot (inB (ilen a1) (1 : Int) (4 : Int))) true (bnot (ieq (ilen a2) (ilen a1)))) : Bool) = (bite (bnot (inB (ilen a1) (1 : Int) (4 : Int))) true (bnot (ieq (ilen a2) (ilen a1))))) ∧ (((bite (bite (bnot (inB (ilen a1) (1 : Int) (4 : Int))) true (bnot (ieq (ilen a2) (ilen a1)))) true (bnot (ieq (ilen a3) (ilen a1)))) : Bool) = (bite (bite (bnot (inB (ilen a1) (1 : Int) (4 : Int))) true (bnot (ieq (ilen a2) (ilen a1)))) true (bnot (ieq (ilen a3) (ilen a1))))) ∧ (true = true) ∧ ((Cont.ints a1) = (Cont.ints a1)) ∧ (((ilen a1) : Int) = (ilen a1)) ∧ (((ilen a1) : Int) = (ilen a1)) ∧ (true = true) ∧ (((Cont.ints a1) = (Cont.ints a1)) ∧ ((Cont.ints a2) = (Cont.ints a2)) ∧ ((Cont.ints a3) = (Cont.ints a3)) ∧ True) ∧ True) ∧ ((((Cont.ints a1) = (Cont.ints a1)) ∧ ((Cont.ints a2) = (Cont.ints a2)) ∧ ((Cont.ints a3) = (Cont.ints a3)) ∧ True) ∧ True)) ∧ ((([GK.int, GK.bool] : List GK) = ([GK.int, GK.bool] : List GK)) ∧ I1 [GV.int (iadd i1_0 (1 : Int)), GV.bool b1_1] ∧ μ1 [GV.int (iadd i1_0 (1 : Int)), GV.bool b1_1] < μ1 [GV.int i1_0, GV.bool b1_1]))))) ∧ ((ilt i1_0 (ilen a1)) = false → ((true = true) ∧ ((True) ∧ True) ∧ ((true : Bool) = (armB a1 a2 a3)) ∧ True))))))) = ev sig_impl_ArmValid xs_impl_ArmValid Try.f55.ntmps (fun b => if b == 0 then [.v 26, .v 2] else []) (codeOf Try.f55) 0 (initS [.agg [.view (.ints a1), .view (.ints a2), .view (.ints a3)]]) (retK Try.f55.results.toList [.s (.bool (armB a1 a2 a3))]) := by kernel_rfl
set_option maxHeartbeats 400000 in
theorem F_impl_ArmValid : FunOK 55 g_impl_ArmValid := by
  refine fun_F (by kernel_rfl) Try.func55 rfl (by kernel_rfl) sig_impl_ArmValid_ok xs_impl_ArmValid_ok ?_
  intro avs sg h hn hl
  unfold g_impl_ArmValid at h
  split at h
  · rename_i a1 a2 a3
    injection h with h; subst h
    refine ⟨by kernel_rfl, fun b => if b == 0 then [.v 26, .v 2] else [], Eq.mp (V_impl_ArmValid a1 a2 a3) ?_⟩
    simp only [true_and, and_true, implies_true, and_self, forall_const, true_implies, lenA, lenL, SV.lenOK, Cont.lenOK] at hn hl ⊢
    have h0 := ilen_0 a1
    simp only [ilt_t, ilt_f, ile_t, ile_f, ieq_t, ieq_f, bnot_e, band_e, bite_and, bite_or, NLt_e, NLe_e, NNe_e, NIs_e, imax_e, imin_e, irem_e, Bool.not_eq_true', Bool.not_eq_false', Bool.and_eq_true, Bool.or_eq_true, Bool.or_eq_false_iff, Bool.and_eq_false_iff, Cont.pts.injEq, Cont.ints.injEq, Cont.bools.injEq, Cont.ptss.injEq, Cont.intss.injEq, Cont.boolss.injEq, true_and, and_true, implies_true]
    refine ⟨fun h => ?_, fun h => ?_⟩
    · unfold armB
      rcases h with (h | h) | h <;> simp [h]
    · obtain ⟨⟨c1, c2⟩, c3⟩ := h
      refine ⟨fun | .int k :: _ => 0 ≤ k ∧ k ≤ ilen a1 ∧ (∀ j, 0 ≤ j → j < k → armE a1 a2 a3 j = true) | _ => False, fun | .int k :: _ => (ilen a1 - k).toNat | _ => 0, ?_, ?_⟩
      · exact ⟨Int.le_refl 0, h0, fun j h0 h1 => absurd h1 (by omega)⟩
      · rintro k _ ⟨hk0, hk1, hk⟩
        simp only [ilt_t, ilt_f, ile_t, ile_f, ieq_t, ieq_f, bnot_e, band_e, bite_and, bite_or, NLt_e, NLe_e, NNe_e, NIs_e, imax_e, imin_e, irem_e, Bool.not_eq_true', Bool.not_eq_false', Bool.and_eq_true, Bool.or_eq_true, Bool.or_eq_false_iff, Bool.and_eq_false_iff, Cont.pts.injEq, Cont.ints.injEq, Cont.bools.injEq, Cont.ptss.injEq, Cont.intss.injEq, Cont.boolss.injEq, true_and, and_true, implies_true]
        refine ⟨fun hc => ⟨⟨⟨hk0, hc⟩, fun _ => ⟨hk0, by omega⟩, fun _ => ⟨hk0, by omega⟩, fun _ => ⟨hk0, by omega⟩⟩, fun hv => ?_, fun hv => ?_⟩, fun hc => ?_⟩
        · have hE : armE a1 a2 a3 k = false := by unfold armE; rcases hv with (hv | hv) | hv <;> simp [hv]
          unfold armB; rw [allN_no k hk0 hc hE]; simp
        · have hE : armE a1 a2 a3 k = true := by unfold armE; rw [hv.1.1, hv.1.2, hv.2]; rfl
          rw [iadd_1 hk0 hc hl.1]
          exact ⟨⟨by omega, by omega, upTo hk hE⟩, by omega⟩
        · unfold armB; rw [allN_mk fun j h0 h1 => hk j h0 (by omega), c1]; simp [c2, c3]
  · cases h
def g_impl_GridSize : List AV → Option Sg
  | [.agg [.view (.ints a1), .view (.ints a2), .view (.ints a3)], .s (.int s)] => some ⟨True, [.s (.int (gsK a1 a2 a3 s 0)), .s (.int (gsK a1 a2 a3 s 1))]⟩
  | _ => none
def sig_impl_GridSize : FuncId → List AV → Option Sg := sigL [(55, g_impl_ArmValid), (56, g_impl_within)]
def xs_impl_GridSize : XS := ⟨xsigL [], ysigL []⟩
theorem sig_impl_GridSize_ok : SigOK sig_impl_GridSize := sigL_cons F_impl_ArmValid (sigL_cons F_impl_within sigL_nil)
theorem xs_impl_GridSize_ok : XSigOK xs_impl_GridSize := ⟨xsigL_nil, ysigL_nil⟩
theorem V_impl_GridSize (a1 : List Int) (a2 : List Int) (a3 : List Int) (s : Int) : ((true = true) ∧ ((True) ∧ (True) ∧ (True) ∧ True) ∧ (true = true) ∧ ((True) ∧ ((True)) ∧ (True) ∧ (True) ∧ (NIs (bnot (armB a1 a2 a3)) false → True) ∧ (NIs (bnot (armB a1 a2 a3)) false → True) ∧ (NIs (bnot (armB a1 a2 a3)) false → True) ∧ (NIs (bnot (armB a1 a2 a3)) false → True) ∧ (True) ∧ (True) ∧ (NIs (bite (bnot (armB a1 a2 a3)) true (bnot (ieq (ilen a1) (2 : Int)))) false → True) ∧ (NIs (bite (bnot (armB a1 a2 a3)) true (bnot (ieq (ilen a1) (2 : Int)))) false → (True)) ∧ (NIs (bite (bnot (armB a1 a2 a3)) true (bnot (ieq (ilen a1) (2 : Int)))) false → True) ∧ (True) ∧ True) ∧ ((bite (bite (bnot (armB a1 a2 a3)) true (bnot (ieq (ilen a1) (2 : Int)))) true (bnot (inB s (1 : Int) (360 : Int)))) = true → ((true = true) ∧ ((True) ∧ (True) ∧ True) ∧ (((0 : Int) : Int) = (gsK a1 a2 a3 s 0)) ∧ (((0 : Int) : Int) = (gsK a1 a2 a3 s 1)) ∧ True)) ∧ ((bite (bite (bnot (armB a1 a2 a3)) true (bnot (ieq (ilen a1) (2 : Int)))) true (bnot (inB s (1 : Int) (360 : Int)))) = false → ((true = true) ∧ ((True) ∧ (True) ∧ (NLe 0 (0 : Int) ∧ NLt (0 : Int) (ilen a3)) ∧ (True) ∧ (True) ∧ (True) ∧ (NLe 0 (0 : Int) ∧ NLt (0 : Int) (ilen a2)) ∧ (True) ∧ (True) ∧ (True) ∧ (NNe s 0) ∧ (True) ∧ (True) ∧ True) ∧ (true = true) ∧ ((True) ∧ (True) ∧ (NLe 0 (1 : Int) ∧ NLt (1 : Int) (ilen a3)) ∧ (True) ∧ (True) ∧ (True) ∧ (NLe 0 (1 : Int) ∧ NLt (1 : Int) (ilen a2)) ∧ (True) ∧ (True) ∧ (True) ∧ (NNe s 0) ∧ (True) ∧ (True) ∧ True) ∧ (true = true) ∧ ((True) ∧ (True) ∧ (True) ∧ (NIs (ilt (20 : Int) (iadd (iquo (isub (geti a3 (0 : Int)) (geti a2 (0 : Int))) s) (1 : Int))) false → True) ∧ (NIs (ilt (20 : Int) (iadd (iquo (isub (geti a3 (0 : Int)) (geti a2 (0 : Int))) s) (1 : Int))) false → True) ∧ (True) ∧ True) ∧ ((bite (ilt (20 : Int) (iadd (iquo (isub (geti a3 (0 : Int)) (geti a2 (0 : Int))) s) (1 : Int))) true (ilt (20 : Int) (iadd (iquo (isub (geti a3 (1 : Int)) (geti a2 (1 : Int))) s) (1 : Int)))) = true → ((true = true) ∧ ((True) ∧ (True) ∧ True) ∧ (((0 : Int) : Int) = (gsK a1 a2 a3 s 0)) ∧ (((0 : Int) : Int) = (gsK a1 a2 a3 s 1)) ∧ True)) ∧ ((bite (ilt (20 : Int) (iadd (iquo (isub (geti a3 (0 : Int)) (geti a2 (0 : Int))) s) (1 : Int))) true (ilt (20 : Int) (iadd (iquo (isub (geti a3 (1 : Int)) (geti a2 (1 : Int))) s) (1 : Int)))) = false → ((true = true) ∧ ((True) ∧ (True) ∧ (True) ∧ (True) ∧ True) ∧ (((iadd (iquo (isub (geti a3 (0 : Int)) (geti a2 (0 : Int))) s) (1 : Int)) : Int) = (gsK a1 a2 a3 s 0)) ∧ (((iadd (iquo (isub (geti a3 (1 : Int)) (geti a2 (1 : Int))) s) (1 : Int)) : Int) = (gsK a1 a2 a3 s 1)) ∧ True))))) = ev sig_impl_GridSize xs_impl_GridSize Try.f24.ntmps (fun b => []) (codeOf Try.f24) 0 (initS [.agg [.view (.ints a1), .view (.ints a2), .view (.ints a3)], .s (.int s)]) (retK Try.f24.results.toList [.s (.int (gsK a1 a2 a3 s 0)), .s (.int (gsK a1 a2 a3 s 1))]) := by kernel_rfl
set_option maxHeartbeats 400000 in
theorem F_impl_GridSize : FunOK 24 g_impl_GridSize := by
  refine fun_F (by kernel_rfl) Try.func24 rfl (by kernel_rfl) sig_impl_GridSize_ok xs_impl_GridSize_ok ?_
  intro avs sg h hn hl
  unfold g_impl_GridSize at h
  split at h
  · rename_i a1 a2 a3 s
    injection h with h; subst h
    refine ⟨by kernel_rfl, fun b => [], Eq.mp (V_impl_GridSize a1 a2 a3 s) ?_⟩
    simp only [true_and, and_true, implies_true, and_self, forall_const, true_implies, lenA, lenL, SV.lenOK, Cont.lenOK] at hn hl ⊢
    simp only [ilt_t, ilt_f, ile_t, ile_f, ieq_t, ieq_f, bnot_e, band_e, bite_and, bite_or, NLt_e, NLe_e, NNe_e, NIs_e, imax_e, imin_e, irem_e, Bool.not_eq_true', Bool.not_eq_false', Bool.and_eq_true, Bool.or_eq_true, Bool.or_eq_false_iff, Bool.and_eq_false_iff, Cont.pts.injEq, Cont.ints.injEq, Cont.bools.injEq, Cont.ptss.injEq, Cont.intss.injEq, Cont.boolss.injEq, true_and, and_true, implies_true]
    refine ⟨fun h => ?_, fun h => ?_⟩
    · have hB : gsB a1 a2 a3 s = false := by unfold gsB; rcases h with (h | h) | h <;> simp [h]
      unfold gsK; simp [hB]
    · obtain ⟨⟨h1, h2⟩, h3⟩ := h
      obtain ⟨e1, e2⟩ := armB_len h1
      have hB : gsB a1 a2 a3 s = true := by unfold gsB; rw [h1, h3]; simp [h2]
      have hs := inB_true h3
      refine ⟨by omega, by omega, fun h => ?_, fun h => ?_⟩
      · have : ¬ (gsB a1 a2 a3 s = true ∧ gsN a2 a3 s 0 ≤ 20 ∧ gsN a2 a3 s 1 ≤ 20) := by rintro ⟨_, g1, g2⟩; unfold gsN at g1 g2; omega
        unfold gsK; rw [if_neg this, if_neg this]; exact ⟨rfl, rfl⟩
      · have : gsB a1 a2 a3 s = true ∧ gsN a2 a3 s 0 ≤ 20 ∧ gsN a2 a3 s 1 ≤ 20 := ⟨hB, h.1, h.2⟩
        unfold gsK; rw [if_pos this, if_pos this]; exact ⟨rfl, rfl⟩
  · cases h
theorem armB_at {a1 a2 a3 : List Int} (h : armB a1 a2 a3 = true) {i : Int} (h0 : 0 ≤ i) (h1 : i < ilen a1) : (-180 ≤ geti a2 i ∧ geti a2 i ≤ 180) ∧ geti a2 i ≤ geti a3 i ∧ geti a3 i ≤ 180 := by
  unfold armB at h
  simp only [Bool.and_eq_true] at h
  have := allN_iff.1 h.2 i h0 h1
  unfold armE at this
  simp only [Bool.and_eq_true] at this
  have b1 := inB_true this.1.2; have b2 := inB_true this.2
  omega
theorem gsB_parts {a1 a2 a3 : List Int} {s : Int} (h : gsB a1 a2 a3 s = true) : armB a1 a2 a3 = true ∧ ilen a1 = 2 ∧ 1 ≤ s ∧ s ≤ 360 := by
  unfold gsB at h
  simp only [Bool.and_eq_true, decide_eq_true_eq] at h
  have := inB_true h.2
  exact ⟨h.1.1, h.1.2, this.1, this.2⟩
theorem gsN_e {a1 a2 a3 : List Int} {s i : Int} (h : gsB a1 a2 a3 s = true) (h0 : 0 ≤ i) (h1 : i < 2) : gsN a2 a3 s i = (geti a3 i - geti a2 i) / s + 1 ∧ 0 ≤ (geti a3 i - geti a2 i) / s ∧ (geti a3 i - geti a2 i) / s ≤ 360 ∧ (geti a3 i - geti a2 i) / s * s ≤ geti a3 i - geti a2 i := by
  obtain ⟨ha, hl, s1, s2⟩ := gsB_parts h
  obtain ⟨b1, b2, b3⟩ := armB_at ha h0 (by omega)
  have e1 : isub (geti a3 i) (geti a2 i) = geti a3 i - geti a2 i := isub_e (by omega) (by omega)
  have q0 : 0 ≤ (geti a3 i - geti a2 i) / s := Int.ediv_nonneg (by omega) (by omega)
  have q1 : (geti a3 i - geti a2 i) / s ≤ 360 := by
    have := Int.ediv_le_self (a := geti a3 i - geti a2 i) s (by omega)
    omega
  unfold gsN
  rw [e1, iquo_e (by omega) (by omega) s1, Int.tdiv_eq_ediv_of_nonneg (by omega), iadd_e (by omega) (by omega)]
  exact ⟨rfl, q0, q1, Int.ediv_mul_le _ (by omega)⟩
theorem gsK_cases (a1 a2 a3 : List Int) (s : Int) : (gsK a1 a2 a3 s 0 = 0 ∧ gsK a1 a2 a3 s 1 = 0) ∨ (gsB a1 a2 a3 s = true ∧ gsN a2 a3 s 0 ≤ 20 ∧ gsN a2 a3 s 1 ≤ 20 ∧ gsK a1 a2 a3 s 0 = gsN a2 a3 s 0 ∧ gsK a1 a2 a3 s 1 = gsN a2 a3 s 1 ∧ 1 ≤ gsN a2 a3 s 0 ∧ 1 ≤ gsN a2 a3 s 1) := by
  unfold gsK
  by_cases h : gsB a1 a2 a3 s = true ∧ gsN a2 a3 s 0 ≤ 20 ∧ gsN a2 a3 s 1 ≤ 20
  · rw [if_pos h, if_pos h]
    have h0 := gsN_e h.1 (i := 0) (by omega) (by omega)
    have h1 := gsN_e h.1 (i := 1) (by omega) (by omega)
    exact .inr ⟨h.1, h.2.1, h.2.2, rfl, rfl, by omega, by omega⟩
  · rw [if_neg h, if_neg h]; exact .inl ⟨rfl, rfl⟩
theorem div_anti {d s t : Int} (hd : 0 ≤ d) (hs : 1 ≤ s) (ht : s ≤ t) : d / t ≤ d / s := by
  refine (Int.le_ediv_iff_mul_le (by omega)).2 ?_
  have h1 : d / t * t ≤ d := Int.ediv_mul_le _ (by omega)
  have h0 : 0 ≤ d / t := Int.ediv_nonneg hd (by omega)
  have := Int.mul_le_mul_of_nonneg_left ht h0
  omega
theorem gsK_less {a1 a2 a3 : List Int} {s : Int} (hs : 0 ≤ s ∧ s ≤ 361) (h : gsK a1 a2 a3 s 0 ≠ 0) :
    (1 ≤ gsK a1 a2 a3 s 0 ∧ 1 ≤ gsK a1 a2 a3 s 1) ∧ (gsK a1 a2 a3 (min 360 (s + 1)) 0 ≤ gsK a1 a2 a3 s 0 ∧ gsK a1 a2 a3 (min 360 (s + 1)) 1 ≤ gsK a1 a2 a3 s 1) ∧ 1 ≤ gsK a1 a2 a3 (min 360 (s + 1)) 0 ∧ gsK a1 a2 a3 s 0 ≤ 20 ∧ gsK a1 a2 a3 s 1 ≤ 20 := by
  rcases gsK_cases a1 a2 a3 s with ⟨h0, _⟩ | ⟨hB, g0, g1, e0, e1, m0, m1⟩
  · exact absurd h0 h
  obtain ⟨ha, hl, s1, s2⟩ := gsB_parts hB
  have hB' : gsB a1 a2 a3 (min 360 (s + 1)) = true := by
    unfold gsB
    rw [ha, hl]; unfold inB; simp; omega
  obtain ⟨b1, b2, b3⟩ := armB_at ha (i := 0) (by omega) (by omega)
  obtain ⟨c1, c2, c3⟩ := armB_at ha (i := 1) (by omega) (by omega)
  have p0 := (gsN_e hB (i := 0) (by omega) (by omega)).1
  have p1 := (gsN_e hB (i := 1) (by omega) (by omega)).1
  have q0 := gsN_e hB' (i := 0) (by omega) (by omega)
  have q1 := gsN_e hB' (i := 1) (by omega) (by omega)
  have d0 := div_anti (d := geti a3 0 - geti a2 0) (s := s) (t := min 360 (s + 1)) (by omega) s1 (by omega)
  have d1 := div_anti (d := geti a3 1 - geti a2 1) (s := s) (t := min 360 (s + 1)) (by omega) s1 (by omega)
  rcases gsK_cases a1 a2 a3 (min 360 (s + 1)) with ⟨h0, h1⟩ | ⟨_, _, _, f0, f1, _, _⟩
  · exfalso
    unfold gsK at h0
    rw [if_pos ⟨hB', by omega, by omega⟩] at h0
    omega
  · omega
def cjB (a1 a2 a3 : List Int) (s c1 c2 : Int) : Bool := inB c1 0 (isub (gsK a1 a2 a3 s 0) 1) && inB c2 0 (isub (gsK a1 a2 a3 s 1) 1)
def cjL (a1 a2 a3 : List Int) (s c1 c2 : Int) : List Int := if cjB a1 a2 a3 s c1 c2 then [iadd (geti a2 0) (imul c1 s), iadd (geti a2 1) (imul c2 s)] else []
theorem cj_parts {a1 a2 a3 : List Int} {s c1 c2 : Int} (h : cjB a1 a2 a3 s c1 c2 = true) : gsB a1 a2 a3 s = true ∧ ilen a2 = 2 ∧ ilen a3 = 2 ∧ (0 ≤ c1 ∧ c1 ≤ 19 ∧ c1 ≤ (geti a3 0 - geti a2 0) / s) ∧ (0 ≤ c2 ∧ c2 ≤ 19 ∧ c2 ≤ (geti a3 1 - geti a2 1) / s) ∧ gsK a1 a2 a3 s 0 = gsN a2 a3 s 0 ∧ gsK a1 a2 a3 s 1 = gsN a2 a3 s 1 := by
  unfold cjB at h
  simp only [Bool.and_eq_true] at h
  have b1 := inB_true h.1; have b2 := inB_true h.2
  rcases gsK_cases a1 a2 a3 s with ⟨h0, h1⟩ | ⟨hB, g0, g1, e0, e1, m0, m1⟩
  · rw [h0] at b1
    have : isub 0 1 = -1 := isub_e (by omega) (by omega)
    omega
  · obtain ⟨ha, hl, s1, s2⟩ := gsB_parts hB
    obtain ⟨l2, l3⟩ := armB_len ha
    have q0 := gsN_e hB (i := 0) (by omega) (by omega)
    have q1 := gsN_e hB (i := 1) (by omega) (by omega)
    rw [e0, isub_e (by omega) (by omega)] at b1
    rw [e1, isub_e (by omega) (by omega)] at b2
    exact ⟨hB, by omega, by omega, by omega, by omega, e0, e1⟩
theorem cj_val {a1 a2 a3 : List Int} {s c1 c2 : Int} (h : cjB a1 a2 a3 s c1 c2 = true) :
    cjL a1 a2 a3 s c1 c2 = [geti a2 0 + c1 * s, geti a2 1 + c2 * s] ∧ (iadd (geti a2 0) (imul c1 s) = geti a2 0 + c1 * s) ∧ (geti a2 0 ≤ geti a2 0 + c1 * s ∧ geti a2 0 + c1 * s ≤ geti a3 0) ∧ (geti a2 1 ≤ geti a2 1 + c2 * s ∧ geti a2 1 + c2 * s ≤ geti a3 1) := by
  obtain ⟨hB, l2, l3, p1, p2, -, -⟩ := cj_parts h
  obtain ⟨ha, hl, s1, s2⟩ := gsB_parts hB
  obtain ⟨b1, b2, b3⟩ := armB_at ha (i := 0) (by omega) (by omega)
  obtain ⟨d1, d2, d3⟩ := armB_at ha (i := 1) (by omega) (by omega)
  have q0 := gsN_e hB (i := 0) (by omega) (by omega)
  have q1 := gsN_e hB (i := 1) (by omega) (by omega)
  have m1 : 0 ≤ c1 * s := Int.mul_nonneg p1.1 (by omega)
  have m2 : 0 ≤ c2 * s := Int.mul_nonneg p2.1 (by omega)
  have n1 := Int.mul_le_mul_of_nonneg_right p1.2.2 (show 0 ≤ s by omega)
  have n2 := Int.mul_le_mul_of_nonneg_right p2.2.2 (show 0 ≤ s by omega)
  have w1 : imul c1 s = c1 * s := imul_e (by omega) (by omega)
  have w2 : imul c2 s = c2 * s := imul_e (by omega) (by omega)
  have v1 : iadd (geti a2 0) (c1 * s) = geti a2 0 + c1 * s := iadd_e (by omega) (by omega)
  have v2 : iadd (geti a2 1) (c2 * s) = geti a2 1 + c2 * s := iadd_e (by omega) (by omega)
  unfold cjL
  rw [if_pos h, w1, w2, v1, v2]
  exact ⟨rfl, rfl, by omega, by omega⟩
def jvB (a1 a2 a3 j : List Int) : Bool := armB a1 a2 a3 && decide (ilen j = ilen a1) && allN (ilen j) fun k => inB (geti j k) (geti a2 k) (geti a3 k)
def g_impl_CellJoints : List AV → Option Sg
  | [.agg [.view (.ints a1), .view (.ints a2), .view (.ints a3)], .s (.int s), .agg [.int c1, .int c2]] => some ⟨True, [.nrow 3 (.ints (cjL a1 a2 a3 s c1 c2))]⟩
  | _ => none
def sig_impl_CellJoints : FuncId → List AV → Option Sg := sigL [(24, g_impl_GridSize), (56, g_impl_within)]
def xs_impl_CellJoints : XS := ⟨xsigL [], ysigL []⟩
theorem sig_impl_CellJoints_ok : SigOK sig_impl_CellJoints := sigL_cons F_impl_GridSize (sigL_cons F_impl_within sigL_nil)
theorem xs_impl_CellJoints_ok : XSigOK xs_impl_CellJoints := ⟨xsigL_nil, ysigL_nil⟩
theorem V_impl_CellJoints (a1 : List Int) (a2 : List Int) (a3 : List Int) (s : Int) (c1 : Int) (c2 : Int) : ((true = true) ∧ ((True) ∧ (True) ∧ (True) ∧ True) ∧ (true = true) ∧ ((True) ∧ (True) ∧ ((True)) ∧ (True) ∧ (True) ∧ (True) ∧ (True) ∧ (True) ∧ True) ∧ (true = true) ∧ ((True) ∧ (True) ∧ (True) ∧ (True) ∧ ((True)) ∧ (True) ∧ (True) ∧ (NIs (bnot (inB c1 (0 : Int) (isub (gsK a1 a2 a3 s 0) (1 : Int)))) false → True) ∧ (NIs (bnot (inB c1 (0 : Int) (isub (gsK a1 a2 a3 s 0) (1 : Int)))) false → True) ∧ (NIs (bnot (inB c1 (0 : Int) (isub (gsK a1 a2 a3 s 0) (1 : Int)))) false → True) ∧ (NIs (bnot (inB c1 (0 : Int) (isub (gsK a1 a2 a3 s 0) (1 : Int)))) false → True) ∧ (NIs (bnot (inB c1 (0 : Int) (isub (gsK a1 a2 a3 s 0) (1 : Int)))) false → (True)) ∧ (NIs (bnot (inB c1 (0 : Int) (isub (gsK a1 a2 a3 s 0) (1 : Int)))) false → True) ∧ (True) ∧ True) ∧ ((bite (bnot (inB c1 (0 : Int) (isub (gsK a1 a2 a3 s 0) (1 : Int)))) true (bnot (inB c2 (0 : Int) (isub (gsK a1 a2 a3 s 1) (1 : Int))))) = true → ((true = true) ∧ ((True) ∧ True) ∧ ((true = true) ∧ ((Cont.ints []) = (Cont.ints (cjL a1 a2 a3 s c1 c2)))) ∧ True)) ∧ ((bite (bnot (inB c1 (0 : Int) (isub (gsK a1 a2 a3 s 0) (1 : Int)))) true (bnot (inB c2 (0 : Int) (isub (gsK a1 a2 a3 s 1) (1 : Int))))) = false → ((true = true) ∧ ((True) ∧ (True) ∧ (NLe 0 (0 : Int) ∧ NLt (0 : Int) (ilen a2)) ∧ (True) ∧ (True) ∧ (True) ∧ (True) ∧ (True) ∧ (True) ∧ (True) ∧ (True) ∧ (NLe 0 (1 : Int) ∧ NLt (1 : Int) (ilen a2)) ∧ (True) ∧ (True) ∧ (True) ∧ (True) ∧ (True) ∧ (True) ∧ (True) ∧ (True) ∧ True) ∧ ((true = true) ∧ ((Cont.ints [(iadd (geti a2 (0 : Int)) (imul c1 s)), (iadd (geti a2 (1 : Int)) (imul c2 s))]) = (Cont.ints (cjL a1 a2 a3 s c1 c2)))) ∧ True))) = ev sig_impl_CellJoints xs_impl_CellJoints Try.f30.ntmps (fun b => []) (codeOf Try.f30) 0 (initS [.agg [.view (.ints a1), .view (.ints a2), .view (.ints a3)], .s (.int s), .agg [.int c1, .int c2]]) (retK Try.f30.results.toList [.nrow 3 (.ints (cjL a1 a2 a3 s c1 c2))]) := by kernel_rfl
set_option maxHeartbeats 400000 in
theorem F_impl_CellJoints : FunOK 30 g_impl_CellJoints := by
  refine fun_F (by kernel_rfl) Try.func30 rfl (by kernel_rfl) sig_impl_CellJoints_ok xs_impl_CellJoints_ok ?_
  intro avs sg h hn hl
  unfold g_impl_CellJoints at h
  split at h
  · rename_i a1 a2 a3 s c1 c2
    injection h with h; subst h
    refine ⟨by kernel_rfl, fun b => [], Eq.mp (V_impl_CellJoints a1 a2 a3 s c1 c2) ?_⟩
    simp only [true_and, and_true, implies_true, and_self, forall_const, true_implies, lenA, lenL, SV.lenOK, Cont.lenOK] at hn hl ⊢
    simp only [ilt_t, ilt_f, ile_t, ile_f, ieq_t, ieq_f, bnot_e, band_e, bite_and, bite_or, NLt_e, NLe_e, NNe_e, NIs_e, imax_e, imin_e, irem_e, Bool.not_eq_true', Bool.not_eq_false', Bool.and_eq_true, Bool.or_eq_true, Bool.or_eq_false_iff, Bool.and_eq_false_iff, Cont.pts.injEq, Cont.ints.injEq, Cont.bools.injEq, Cont.ptss.injEq, Cont.intss.injEq, Cont.boolss.injEq, true_and, and_true, implies_true]
    refine ⟨fun h => ?_, fun h => ?_⟩
    · have : cjB a1 a2 a3 s c1 c2 = false := by unfold cjB; rcases h with h | h <;> simp [h]
      unfold cjL; simp [this]
    · have hB : cjB a1 a2 a3 s c1 c2 = true := by unfold cjB; rw [h.1, h.2]; rfl
      obtain ⟨_, l2, _⟩ := cj_parts hB
      refine ⟨⟨⟨by omega, by omega⟩, by omega, by omega⟩, ?_⟩
      unfold cjL; rw [if_pos hB]
  · cases h
def g_spec_CellJoints : List AV → Option Sg
  | [.agg [.view (.ints a1), .view (.ints a2), .view (.ints a3)], .s (.int s), .agg [.int c1, .int c2]] => some ⟨True, [.nrow 3 (.ints (cjL a1 a2 a3 s c1 c2))]⟩
  | _ => none
def sig_spec_CellJoints : FuncId → List AV → Option Sg := sigL [(53, g_spec_l11Size), (65, g_spec_l1In)]
def xs_spec_CellJoints : XS := ⟨xsigL [], ysigL []⟩
theorem sig_spec_CellJoints_ok : SigOK sig_spec_CellJoints := sigL_cons F_spec_l11Size (sigL_cons F_spec_l1In sigL_nil)
theorem xs_spec_CellJoints_ok : XSigOK xs_spec_CellJoints := ⟨xsigL_nil, ysigL_nil⟩
theorem V_spec_CellJoints (a1 : List Int) (a2 : List Int) (a3 : List Int) (s : Int) (c1 : Int) (c2 : Int) : ((true = true) ∧ ((True) ∧ (True) ∧ (True) ∧ True) ∧ (true = true) ∧ ((True) ∧ (True) ∧ ((True)) ∧ (True) ∧ (True) ∧ (True) ∧ (True) ∧ (True) ∧ True) ∧ (true = true) ∧ ((True) ∧ (True) ∧ (True) ∧ (True) ∧ ((True)) ∧ (True) ∧ (True) ∧ (NIs (bnot (inB c1 (0 : Int) (isub (gsK a1 a2 a3 s 0) (1 : Int)))) false → True) ∧ (NIs (bnot (inB c1 (0 : Int) (isub (gsK a1 a2 a3 s 0) (1 : Int)))) false → True) ∧ (NIs (bnot (inB c1 (0 : Int) (isub (gsK a1 a2 a3 s 0) (1 : Int)))) false → True) ∧ (NIs (bnot (inB c1 (0 : Int) (isub (gsK a1 a2 a3 s 0) (1 : Int)))) false → True) ∧ (NIs (bnot (inB c1 (0 : Int) (isub (gsK a1 a2 a3 s 0) (1 : Int)))) false → (True)) ∧ (NIs (bnot (inB c1 (0 : Int) (isub (gsK a1 a2 a3 s 0) (1 : Int)))) false → True) ∧ (True) ∧ True) ∧ ((bite (bnot (inB c1 (0 : Int) (isub (gsK a1 a2 a3 s 0) (1 : Int)))) true (bnot (inB c2 (0 : Int) (isub (gsK a1 a2 a3 s 1) (1 : Int))))) = true → ((true = true) ∧ ((True) ∧ (True) ∧ True) ∧ ((true = true) ∧ ((Cont.ints []) = (Cont.ints (cjL a1 a2 a3 s c1 c2)))) ∧ True)) ∧ ((bite (bnot (inB c1 (0 : Int) (isub (gsK a1 a2 a3 s 0) (1 : Int)))) true (bnot (inB c2 (0 : Int) (isub (gsK a1 a2 a3 s 1) (1 : Int))))) = false → ((true = true) ∧ ((True) ∧ (True) ∧ (NLe 0 (0 : Int) ∧ NLt (0 : Int) (ilen a2)) ∧ (True) ∧ (True) ∧ (True) ∧ (True) ∧ (True) ∧ (True) ∧ (True) ∧ (True) ∧ (NLe 0 (1 : Int) ∧ NLt (1 : Int) (ilen a2)) ∧ (True) ∧ (True) ∧ (True) ∧ (True) ∧ (True) ∧ (True) ∧ (True) ∧ (True) ∧ True) ∧ ((true = true) ∧ ((Cont.ints [(iadd (geti a2 (0 : Int)) (imul c1 s)), (iadd (geti a2 (1 : Int)) (imul c2 s))]) = (Cont.ints (cjL a1 a2 a3 s c1 c2)))) ∧ True))) = ev sig_spec_CellJoints xs_spec_CellJoints Try.f32.ntmps (fun b => []) (codeOf Try.f32) 0 (initS [.agg [.view (.ints a1), .view (.ints a2), .view (.ints a3)], .s (.int s), .agg [.int c1, .int c2]]) (retK Try.f32.results.toList [.nrow 3 (.ints (cjL a1 a2 a3 s c1 c2))]) := by kernel_rfl
set_option maxHeartbeats 400000 in
theorem F_spec_CellJoints : FunOK 32 g_spec_CellJoints := by
  refine fun_F (by kernel_rfl) Try.func32 rfl (by kernel_rfl) sig_spec_CellJoints_ok xs_spec_CellJoints_ok ?_
  intro avs sg h hn hl
  unfold g_spec_CellJoints at h
  split at h
  · rename_i a1 a2 a3 s c1 c2
    injection h with h; subst h
    refine ⟨by kernel_rfl, fun b => [], Eq.mp (V_spec_CellJoints a1 a2 a3 s c1 c2) ?_⟩
    simp only [true_and, and_true, implies_true, and_self, forall_const, true_implies, lenA, lenL, SV.lenOK, Cont.lenOK] at hn hl ⊢
    simp only [ilt_t, ilt_f, ile_t, ile_f, ieq_t, ieq_f, bnot_e, band_e, bite_and, bite_or, NLt_e, NLe_e, NNe_e, NIs_e, imax_e, imin_e, irem_e, Bool.not_eq_true', Bool.not_eq_false', Bool.and_eq_true, Bool.or_eq_true, Bool.or_eq_false_iff, Bool.and_eq_false_iff, Cont.pts.injEq, Cont.ints.injEq, Cont.bools.injEq, Cont.ptss.injEq, Cont.intss.injEq, Cont.boolss.injEq, true_and, and_true, implies_true]
    refine ⟨fun h => ?_, fun h => ?_⟩
    · have : cjB a1 a2 a3 s c1 c2 = false := by unfold cjB; rcases h with h | h <;> simp [h]
      unfold cjL; simp [this]
    · have hB : cjB a1 a2 a3 s c1 c2 = true := by unfold cjB; rw [h.1, h.2]; rfl
      obtain ⟨_, l2, _⟩ := cj_parts hB
      refine ⟨⟨⟨by omega, by omega⟩, by omega, by omega⟩, ?_⟩
      unfold cjL; rw [if_pos hB]
  · cases h
def eqI (l m : List Int) : Bool := decide (ilen l = ilen m) && allN (ilen l) fun j => decide (geti l j = geti m j)
theorem eqI_same (l : List Int) : eqI l l = true := by
  unfold eqI
  rw [allN_mk fun j _ _ => by simp]
  simp
def g_laws_sameInts : List AV → Option Sg
  | [.s (.view (.ints l)), .s (.view (.ints m))] => some ⟨True, [.s (.bool (eqI l m))]⟩
  | _ => none
def sig_laws_sameInts : FuncId → List AV → Option Sg := sigL []
def xs_laws_sameInts : XS := ⟨xsigL [], ysigL []⟩
theorem sig_laws_sameInts_ok : SigOK sig_laws_sameInts := sigL_nil
theorem xs_laws_sameInts_ok : XSigOK xs_laws_sameInts := ⟨xsigL_nil, ysigL_nil⟩
theorem V_laws_sameInts (l : List Int) (m : List Int) : ((true = true) ∧ ((True) ∧ True) ∧ (true = true) ∧ ((True) ∧ (True) ∧ (True) ∧ (True) ∧ (True) ∧ True) ∧ ((bnot (ieq (ilen l) (ilen m))) = true → ((true = true) ∧ ((True) ∧ True) ∧ ((false : Bool) = (eqI l m)) ∧ True)) ∧ ((bnot (ieq (ilen l) (ilen m))) = false → ((true = true) ∧ ((True) ∧ True) ∧ ∃ (I1 : List GV → Prop) (μ1 : List GV → Nat), (((true = true) ∧ (((false : Bool) = false) ∧ (((0 : Int) : Int) = (0 : Int)) ∧ ((Cont.ints l) = (Cont.ints l)) ∧ (((ilen l) : Int) = (ilen l)) ∧ ((Cont.ints m) = (Cont.ints m)) ∧ (((ilen m) : Int) = (ilen m)) ∧ (((bnot (ieq (ilen l) (ilen m))) : Bool) = (bnot (ieq (ilen l) (ilen m)))) ∧ ((Cont.ints l) = (Cont.ints l)) ∧ ((Cont.ints m) = (Cont.ints m)) ∧ True) ∧ (True)) ∧ (([GK.int, GK.bool] : List GK) = ([GK.int, GK.bool] : List GK)) ∧ I1 [GV.int (0 : Int), GV.bool false]) ∧ (∀ i1_0 : Int, ∀ b1_1 : Bool, I1 [GV.int i1_0, GV.bool b1_1] → ((true = true) ∧ ((True) ∧ (True) ∧ (True) ∧ (True) ∧ True) ∧ ((ilt i1_0 (ilen l)) = true → ((true = true) ∧ ((True) ∧ (True) ∧ (NLe 0 i1_0 ∧ NLt i1_0 (ilen l)) ∧ (True) ∧ (True) ∧ (True) ∧ (NLe 0 i1_0 ∧ NLt i1_0 (ilen m)) ∧ (True) ∧ (True) ∧ True) ∧ ((bnot (ieq (geti l i1_0) (geti m i1_0))) = true → ((true = true) ∧ ((True) ∧ True) ∧ ((false : Bool) = (eqI l m)) ∧ True)) ∧ ((bnot (ieq (geti l i1_0) (geti m i1_0))) = false → ((true = true) ∧ ((True) ∧ (True) ∧ (True) ∧ True) ∧ ((true = true) ∧ (((b1_1 : Bool) = b1_1) ∧ (((iadd i1_0 (1 : Int)) : Int) = (iadd i1_0 (1 : Int))) ∧ ((Cont.ints l) = (Cont.ints l)) ∧ (((ilen l) : Int) = (ilen l)) ∧ ((Cont.ints m) = (Cont.ints m)) ∧ (((ilen m) : Int) = (ilen m)) ∧ (((bnot (ieq (ilen l) (ilen m))) : Bool) = (bnot (ieq (ilen l) (ilen m)))) ∧ ((Cont.ints l) = (Cont.ints l)) ∧ ((Cont.ints m) = (Cont.ints m)) ∧ True) ∧ (True)) ∧ ((([GK.int, GK.bool] : List GK) = ([GK.int, GK.bool] : List GK)) ∧ I1 [GV.int (iadd i1_0 (1 : Int)), GV.bool b1_1] ∧ μ1 [GV.int (iadd i1_0 (1 : Int)), GV.bool b1_1] < μ1 [GV.int i1_0, GV.bool b1_1]))))) ∧ ((ilt i1_0 (ilen l)) = false → ((true = true) ∧ ((True) ∧ True) ∧ ((true : Bool) = (eqI l m)) ∧ True))))))) = ev sig_laws_sameInts xs_laws_sameInts Try.f31.ntmps (fun b => if b == 0 then [.v 5, .v 4] else []) (codeOf Try.f31) 0 (initS [.s (.view (.ints l)), .s (.view (.ints m))]) (retK Try.f31.results.toList [.s (.bool (eqI l m))]) := by kernel_rfl
set_option maxHeartbeats 400000 in
theorem F_laws_sameInts : FunOK 31 g_laws_sameInts := by
  refine fun_F (by kernel_rfl) Try.func31 rfl (by kernel_rfl) sig_laws_sameInts_ok xs_laws_sameInts_ok ?_
  intro avs sg h hn hl
  unfold g_laws_sameInts at h
  split at h
  · rename_i l m
    injection h with h; subst h
    refine ⟨by kernel_rfl, fun b => if b == 0 then [.v 5, .v 4] else [], Eq.mp (V_laws_sameInts l m) ?_⟩
    simp only [true_and, and_true, implies_true, and_self, forall_const, true_implies, lenA, lenL, SV.lenOK, Cont.lenOK] at hn hl ⊢
    have h0 := ilen_0 l
    simp only [ilt_t, ilt_f, ile_t, ile_f, ieq_t, ieq_f, bnot_e, band_e, bite_and, bite_or, NLt_e, NLe_e, NNe_e, NIs_e, imax_e, imin_e, irem_e, Bool.not_eq_true', Bool.not_eq_false', Bool.and_eq_true, Bool.or_eq_true, Bool.or_eq_false_iff, Bool.and_eq_false_iff, Cont.pts.injEq, Cont.ints.injEq, Cont.bools.injEq, Cont.ptss.injEq, Cont.intss.injEq, Cont.boolss.injEq, true_and, and_true, implies_true]
    unfold eqI
    refine ⟨fun h => by simp [h], fun h => ?_⟩
    refine ⟨fun | .int k :: _ => 0 ≤ k ∧ k ≤ ilen l ∧ ∀ j, 0 ≤ j → j < k → decide (geti l j = geti m j) = true | _ => False, fun | .int k :: _ => (ilen l - k).toNat | _ => 0, ?_, ?_⟩
    · exact ⟨Int.le_refl 0, h0, fun j h0 h1 => absurd h1 (by omega)⟩
    · rintro k _ ⟨hk0, hk1, hk⟩
      simp only [ilt_t, ilt_f, ile_t, ile_f, ieq_t, ieq_f, bnot_e, band_e, bite_and, bite_or, NLt_e, NLe_e, NNe_e, NIs_e, imax_e, imin_e, irem_e, Bool.not_eq_true', Bool.not_eq_false', Bool.and_eq_true, Bool.or_eq_true, Bool.or_eq_false_iff, Bool.and_eq_false_iff, Cont.pts.injEq, Cont.ints.injEq, Cont.bools.injEq, Cont.ptss.injEq, Cont.intss.injEq, Cont.boolss.injEq, true_and, and_true, implies_true]
      refine ⟨fun hc => ⟨⟨⟨hk0, hc⟩, hk0, by omega⟩, fun hv => ?_, fun hv => ?_⟩, fun hc => ?_⟩
      · rw [allN_no k hk0 hc (by simpa using hv)]; simp
      · rw [iadd_1 hk0 hc hl.1]
        exact ⟨⟨by omega, by omega, allN_up hk (by simpa using hv)⟩, by omega⟩
      · rw [allN_mk fun j h0 h1 => hk j h0 (by omega)]; simp [h]
  · cases h
def degW (d : Int) : Int := irem (iadd (irem d 360) 360) 360
def g_impl_Degrees : List AV → Option Sg
  | [.s (.int d)] => some ⟨True, [.s (.int (degW d))]⟩
  | _ => none
def sig_impl_Degrees : FuncId → List AV → Option Sg := sigL []
def xs_impl_Degrees : XS := ⟨xsigL [], ysigL []⟩
theorem sig_impl_Degrees_ok : SigOK sig_impl_Degrees := sigL_nil
theorem xs_impl_Degrees_ok : XSigOK xs_impl_Degrees := ⟨xsigL_nil, ysigL_nil⟩
theorem V_impl_Degrees (d : Int) : ((true = true) ∧ ((True) ∧ True) ∧ (true = true) ∧ ((True) ∧ (NNe (360 : Int) 0) ∧ (True) ∧ (NNe (360 : Int) 0) ∧ (True) ∧ True) ∧ (((irem (iadd (irem d (360 : Int)) (360 : Int)) (360 : Int)) : Int) = (degW d)) ∧ True) = ev sig_impl_Degrees xs_impl_Degrees Try.f61.ntmps (fun b => []) (codeOf Try.f61) 0 (initS [.s (.int d)]) (retK Try.f61.results.toList [.s (.int (degW d))]) := by kernel_rfl
set_option maxHeartbeats 400000 in
theorem F_impl_Degrees : FunOK 61 g_impl_Degrees := by
  refine fun_F (by kernel_rfl) Try.func61 rfl (by kernel_rfl) sig_impl_Degrees_ok xs_impl_Degrees_ok ?_
  intro avs sg h hn hl
  unfold g_impl_Degrees at h
  split at h
  · rename_i d
    injection h with h; subst h
    refine ⟨by kernel_rfl, fun b => [], Eq.mp (V_impl_Degrees d) ?_⟩
    simp only [true_and, and_true, implies_true, and_self, forall_const, true_implies, lenA, lenL, SV.lenOK, Cont.lenOK] at hn hl ⊢
    simp only [ilt_t, ilt_f, ile_t, ile_f, ieq_t, ieq_f, bnot_e, band_e, bite_and, bite_or, NLt_e, NLe_e, NNe_e, NIs_e, imax_e, imin_e, irem_e, Bool.not_eq_true', Bool.not_eq_false', Bool.and_eq_true, Bool.or_eq_true, Bool.or_eq_false_iff, Bool.and_eq_false_iff, Cont.pts.injEq, Cont.ints.injEq, Cont.bools.injEq, Cont.ptss.injEq, Cont.intss.injEq, Cont.boolss.injEq, true_and, and_true, implies_true]
    exact ⟨by decide, by simp [degW, irem_e]⟩
  · cases h
def g_laws_alive : List AV → Option Sg
  | [] => some ⟨True, [.s (.bool (true))]⟩
  | _ => none
def sig_laws_alive : FuncId → List AV → Option Sg := sigL [(61, g_impl_Degrees)]
def xs_laws_alive : XS := ⟨xsigL [], ysigL []⟩
theorem sig_laws_alive_ok : SigOK sig_laws_alive := sigL_cons F_impl_Degrees sigL_nil
theorem xs_laws_alive_ok : XSigOK xs_laws_alive := ⟨xsigL_nil, ysigL_nil⟩
theorem V_laws_alive  : ((true = true) ∧ ((True) ∧ True) ∧ (true = true) ∧ (((True)) ∧ (True) ∧ (True) ∧ True) ∧ (((ieq (degW (-1 : Int)) (359 : Int)) : Bool) = (true)) ∧ True) = ev sig_laws_alive xs_laws_alive Try.f27.ntmps (fun b => []) (codeOf Try.f27) 0 (initS []) (retK Try.f27.results.toList [.s (.bool (true))]) := by kernel_rfl
set_option maxHeartbeats 400000 in
theorem F_laws_alive : FunOK 27 g_laws_alive := by
  refine fun_F (by kernel_rfl) Try.func27 rfl (by kernel_rfl) sig_laws_alive_ok xs_laws_alive_ok ?_
  intro avs sg h hn hl
  unfold g_laws_alive at h
  split at h
  ·
    injection h with h; subst h
    refine ⟨by kernel_rfl, fun b => [], Eq.mp (V_laws_alive ) ?_⟩
    simp only [true_and, and_true, implies_true, and_self, forall_const, true_implies, lenA, lenL, SV.lenOK, Cont.lenOK] at hn hl ⊢
    unfold ieq degW
    rw [irem_e, irem_e, iadd_e (by decide) (by decide)]
    decide
  · cases h
def g_impl_JointsValid : List AV → Option Sg
  | [.agg [.view (.ints a1), .view (.ints a2), .view (.ints a3)], .s (.view (.ints j))] => some ⟨True, [.s (.bool (jvB a1 a2 a3 j))]⟩
  | _ => none
def sig_impl_JointsValid : FuncId → List AV → Option Sg := sigL [(55, g_impl_ArmValid), (56, g_impl_within)]
def xs_impl_JointsValid : XS := ⟨xsigL [], ysigL []⟩
theorem sig_impl_JointsValid_ok : SigOK sig_impl_JointsValid := sigL_cons F_impl_ArmValid (sigL_cons F_impl_within sigL_nil)
theorem xs_impl_JointsValid_ok : XSigOK xs_impl_JointsValid := ⟨xsigL_nil, ysigL_nil⟩
theorem V_impl_JointsValid (a1 : List Int) (a2 : List Int) (a3 : List Int) (j : List Int) : ((true = true) ∧ ((True) ∧ (True) ∧ True) ∧ (true = true) ∧ ((True) ∧ ((True)) ∧ (True) ∧ (True) ∧ (NIs (bnot (armB a1 a2 a3)) false → True) ∧ (NIs (bnot (armB a1 a2 a3)) false → True) ∧ (NIs (bnot (armB a1 a2 a3)) false → True) ∧ (NIs (bnot (armB a1 a2 a3)) false → True) ∧ (NIs (bnot (armB a1 a2 a3)) false → True) ∧ (NIs (bnot (armB a1 a2 a3)) false → True) ∧ (True) ∧ True) ∧ ((bite (bnot (armB a1 a2 a3)) true (bnot (ieq (ilen j) (ilen a1)))) = true → ((true = true) ∧ ((True) ∧ True) ∧ ((false : Bool) = (jvB a1 a2 a3 j)) ∧ True)) ∧ ((bite (bnot (armB a1 a2 a3)) true (bnot (ieq (ilen j) (ilen a1)))) = false → ((true = true) ∧ ((True) ∧ (True) ∧ (True) ∧ True) ∧ ∃ (I1 : List GV → Prop) (μ1 : List GV → Nat), (((true = true) ∧ (((false : Bool) = false) ∧ (((0 : Int) : Int) = (0 : Int)) ∧ ((Cont.ints j) = (Cont.ints j)) ∧ (((ilen j) : Int) = (ilen j)) ∧ (((Cont.ints a1) = (Cont.ints a1)) ∧ ((Cont.ints a2) = (Cont.ints a2)) ∧ ((Cont.ints a3) = (Cont.ints a3)) ∧ True) ∧ (((armB a1 a2 a3) : Bool) = (armB a1 a2 a3)) ∧ (((bnot (armB a1 a2 a3)) : Bool) = (bnot (armB a1 a2 a3))) ∧ (((bnot (armB a1 a2 a3)) : Bool) = (bnot (armB a1 a2 a3))) ∧ (((bite (bnot (armB a1 a2 a3)) true (bnot (ieq (ilen j) (ilen a1)))) : Bool) = (bite (bnot (armB a1 a2 a3)) true (bnot (ieq (ilen j) (ilen a1))))) ∧ (true = true) ∧ (((Cont.ints a1) = (Cont.ints a1)) ∧ ((Cont.ints a2) = (Cont.ints a2)) ∧ ((Cont.ints a3) = (Cont.ints a3)) ∧ True) ∧ ((Cont.ints j) = (Cont.ints j)) ∧ True) ∧ ((((Cont.ints a1) = (Cont.ints a1)) ∧ ((Cont.ints a2) = (Cont.ints a2)) ∧ ((Cont.ints a3) = (Cont.ints a3)) ∧ True) ∧ True)) ∧ (([GK.int, GK.bool] : List GK) = ([GK.int, GK.bool] : List GK)) ∧ I1 [GV.int (0 : Int), GV.bool false]) ∧ (∀ i1_0 : Int, ∀ b1_1 : Bool, I1 [GV.int i1_0, GV.bool b1_1] → ((true = true) ∧ ((True) ∧ True) ∧ ((ilt i1_0 (ilen j)) = true → ((true = true) ∧ ((True) ∧ (NLe 0 i1_0 ∧ NLt i1_0 (ilen j)) ∧ (True) ∧ (True) ∧ (True) ∧ True) ∧ (true = true) ∧ ((True) ∧ (True) ∧ (True) ∧ (True) ∧ (NLe 0 i1_0 ∧ NLt i1_0 (ilen a2)) ∧ (True) ∧ (True) ∧ (True) ∧ (True) ∧ (NLe 0 i1_0 ∧ NLt i1_0 (ilen a3)) ∧ (True) ∧ ((True)) ∧ (True) ∧ True) ∧ ((bnot (inB (geti j i1_0) (geti a2 i1_0) (geti a3 i1_0))) = true → ((true = true) ∧ ((True) ∧ True) ∧ ((false : Bool) = (jvB a1 a2 a3 j)) ∧ True)) ∧ ((bnot (inB (geti j i1_0) (geti a2 i1_0) (geti a3 i1_0))) = false → ((true = true) ∧ ((True) ∧ (True) ∧ True) ∧ ((true = true) ∧ (((b1_1 : Bool) = b1_1) ∧ (((iadd i1_0 (1 : Int)) : Int) = (iadd i1_0 (1 : Int))) ∧ ((Cont.ints j) = (Cont.ints j)) ∧ (((ilen j) : Int) = (ilen j)) ∧ (((Cont.ints a1) = (Cont.ints a1)) ∧ ((Cont.ints a2) = (Cont.ints a2)) ∧ ((Cont.ints a3) = (Cont.ints a3)) ∧ True) ∧ (((armB a1 a2 a3) : Bool) = (armB a1 a2 a3)) ∧ (((bnot (armB a1 a2 a3)) : Bool) = (bnot (armB a1 a2 a3))) ∧ (((bnot (armB a1 a2 a3)) : Bool) = (bnot (armB a1 a2 a3))) ∧ (((bite (bnot (armB a1 a2 a3)) true (bnot (ieq (ilen j) (ilen a1)))) : Bool) = (bite (bnot (armB a1 a2 a3)) true (bnot (ieq (ilen j) (ilen a1))))) ∧ (true = true) ∧ (((Cont.ints a1) = (Cont.ints a1)) ∧ ((Cont.ints a2) = (Cont.ints a2)) ∧ ((Cont.ints a3) = (Cont.ints a3)) ∧ True) ∧ ((Cont.ints j) = (Cont.ints j)) ∧ True) ∧ ((((Cont.ints a1) = (Cont.ints a1)) ∧ ((Cont.ints a2) = (Cont.ints a2)) ∧ ((Cont.ints a3) = (Cont.ints a3)) ∧ True) ∧ True)) ∧ ((([GK.int, GK.bool] : List GK) = ([GK.int, GK.bool] : List GK)) ∧ I1 [GV.int (iadd i1_0 (1 : Int)), GV.bool b1_1] ∧ μ1 [GV.int (iadd i1_0 (1 : Int)), GV.bool b1_1] < μ1 [GV.int i1_0, GV.bool b1_1]))))) ∧ ((ilt i1_0 (ilen j)) = false → ((true = true) ∧ ((True) ∧ True) ∧ ((true : Bool) = (jvB a1 a2 a3 j)) ∧ True))))))) = ev sig_impl_JointsValid xs_impl_JointsValid Try.f33.ntmps (fun b => if b == 0 then [.v 20, .v 4] else []) (codeOf Try.f33) 0 (initS [.agg [.view (.ints a1), .view (.ints a2), .view (.ints a3)], .s (.view (.ints j))]) (retK Try.f33.results.toList [.s (.bool (jvB a1 a2 a3 j))]) := by kernel_rfl
set_option maxHeartbeats 400000 in
theorem F_impl_JointsValid : FunOK 33 g_impl_JointsValid := by
  refine fun_F (by kernel_rfl) Try.func33 rfl (by kernel_rfl) sig_impl_JointsValid_ok xs_impl_JointsValid_ok ?_
  intro avs sg h hn hl
  unfold g_impl_JointsValid at h
  split at h
  · rename_i a1 a2 a3 j
    injection h with h; subst h
    refine ⟨by kernel_rfl, fun b => if b == 0 then [.v 20, .v 4] else [], Eq.mp (V_impl_JointsValid a1 a2 a3 j) ?_⟩
    simp only [true_and, and_true, implies_true, and_self, forall_const, true_implies, lenA, lenL, SV.lenOK, Cont.lenOK] at hn hl ⊢
    have h0 := ilen_0 j
    simp only [ilt_t, ilt_f, ile_t, ile_f, ieq_t, ieq_f, bnot_e, band_e, bite_and, bite_or, NLt_e, NLe_e, NNe_e, NIs_e, imax_e, imin_e, irem_e, Bool.not_eq_true', Bool.not_eq_false', Bool.and_eq_true, Bool.or_eq_true, Bool.or_eq_false_iff, Bool.and_eq_false_iff, Cont.pts.injEq, Cont.ints.injEq, Cont.bools.injEq, Cont.ptss.injEq, Cont.intss.injEq, Cont.boolss.injEq, true_and, and_true, implies_true]
    refine ⟨fun h => ?_, fun h => ?_⟩
    · unfold jvB; rcases h with h | h <;> simp [h]
    obtain ⟨ha, hl1⟩ := h
    obtain ⟨l2, l3⟩ := armB_len ha
    refine ⟨fun | .int k :: _ => 0 ≤ k ∧ k ≤ ilen j ∧ (∀ i, 0 ≤ i → i < k → inB (geti j i) (geti a2 i) (geti a3 i) = true) | _ => False, fun | .int k :: _ => (ilen j - k).toNat | _ => 0, ⟨by omega, by omega, fun i h0 h1 => by omega⟩, ?_⟩
    rintro k XX ⟨hk0, hk1, hk⟩
    refine ⟨fun hc => ⟨⟨hk0, hc⟩, ⟨⟨hk0, by omega⟩, hk0, by omega⟩, fun hv => ?_, fun hv => ?_⟩, fun hc => ?_⟩
    · unfold jvB; rw [allN_no k hk0 hc hv]; simp
    · rw [iadd_1 hk0 hc hl.2]
      exact ⟨⟨by omega, by omega, upTo hk hv⟩, by show (ilen j - (k + 1)).toNat < (ilen j - k).toNat; omega⟩
    · unfold jvB; rw [ha, allN_mk fun i j0 j1 => hk i j0 (by omega)]; simp [hl1]
  · cases h
theorem bxor_self (a : Bool) : bxor a a = false := by cases a <;> simp [bxor]
def g_laws_FnCellJoints : List AV → Option Sg
  | [.s (.rdr n)] => some ⟨True, [.s (.bool (true))]⟩
  | _ => none
def sig_laws_FnCellJoints : FuncId → List AV → Option Sg := sigL [(30, g_impl_CellJoints), (32, g_spec_CellJoints), (31, g_laws_sameInts), (27, g_laws_alive), (33, g_impl_JointsValid)]
def xs_laws_FnCellJoints : XS := ⟨xsigL [], ysigL [(29, g_spec_DrawCellJoints)]⟩
theorem sig_laws_FnCellJoints_ok : SigOK sig_laws_FnCellJoints := sigL_cons F_impl_CellJoints (sigL_cons F_spec_CellJoints (sigL_cons F_laws_sameInts (sigL_cons F_laws_alive (sigL_cons F_impl_JointsValid sigL_nil))))
theorem xs_laws_FnCellJoints_ok : XSigOK xs_laws_FnCellJoints := ⟨xsigL_nil, ysigL_cons F_spec_DrawCellJoints ysigL_nil⟩
theorem V_laws_FnCellJoints (n : Int) : ((true = true) ∧ ((True) ∧ True) ∧ (true = true) ∧ ((True) ∧ (True) ∧ (True) ∧ True) ∧ ((ilt (1048576 : Int) n) = true → ((true = true) ∧ ((True) ∧ True) ∧ ((true : Bool) = (true)) ∧ True)) ∧ ((ilt (1048576 : Int) n) = false → ((true = true) ∧ ((True) ∧ True) ∧ (true = true) ∧ ((n ≤ 1048576)) ∧ (∀ x_19 : List Int, ∀ y_20 : List Int, ∀ z_21 : List Int, ∀ s_22 : Int, ∀ a_23 : Int, ∀ b_24 : Int, ((ilen x_19 ≤ 10 ∧ ilen y_20 ≤ 10 ∧ ilen z_21 ≤ 10 ∧ 0 ≤ s_22 ∧ s_22 ≤ 361) → ((true = true) ∧ ((true = true) ∧ ((true = true) ∧ ((true = true) ∧ ((True) ∧ (True) ∧ (True) ∧ (True) ∧ (True) ∧ (true = true) ∧ ((True) ∧ (True) ∧ (True) ∧ ((True)) ∧ (True) ∧ True) ∧ (true = true) ∧ ((True) ∧ (True) ∧ (True) ∧ (True) ∧ ((True)) ∧ ((True)) ∧ (True) ∧ True) ∧ ((bnot (eqI (cjL (x_19) (y_20) (z_21) (s_22) (a_23) (b_24)) (cjL (x_19) (y_20) (z_21) (s_22) (a_23) (b_24)))) = true → ((true = true) ∧ ((True) ∧ True) ∧ ((false : Bool) = (true)) ∧ True)) ∧ ((bnot (eqI (cjL (x_19) (y_20) (z_21) (s_22) (a_23) (b_24)) (cjL (x_19) (y_20) (z_21) (s_22) (a_23) (b_24)))) = false → ((true = true) ∧ ((True) ∧ (True) ∧ (True) ∧ True) ∧ ((ieq (ilen (cjL (x_19) (y_20) (z_21) (s_22) (a_23) (b_24))) (0 : Int)) = true → ((true = true) ∧ (((True)) ∧ (True) ∧ True) ∧ (((true) : Bool) = (true)) ∧ True)) ∧ ((ieq (ilen (cjL (x_19) (y_20) (z_21) (s_22) (a_23) (b_24))) (0 : Int)) = false → ((true = true) ∧ ((True) ∧ (True) ∧ ((True)) ∧ (True) ∧ (NIs (jvB (x_19) (y_20) (z_21) (cjL (x_19) (y_20) (z_21) (s_22) (a_23) (b_24))) true → True) ∧ (NIs (jvB (x_19) (y_20) (z_21) (cjL (x_19) (y_20) (z_21) (s_22) (a_23) (b_24))) true → True) ∧ (NIs (jvB (x_19) (y_20) (z_21) (cjL (x_19) (y_20) (z_21) (s_22) (a_23) (b_24))) true → True) ∧ (NIs (jvB (x_19) (y_20) (z_21) (cjL (x_19) (y_20) (z_21) (s_22) (a_23) (b_24))) true → (True)) ∧ (NIs (jvB (x_19) (y_20) (z_21) (cjL (x_19) (y_20) (z_21) (s_22) (a_23) (b_24))) true → True) ∧ (NIs (jvB (x_19) (y_20) (z_21) (cjL (x_19) (y_20) (z_21) (s_22) (a_23) (b_24))) true → True) ∧ (NIs (jvB (x_19) (y_20) (z_21) (cjL (x_19) (y_20) (z_21) (s_22) (a_23) (b_24))) true → (True)) ∧ (True) ∧ (True) ∧ (NIs (bite (jvB (x_19) (y_20) (z_21) (cjL (x_19) (y_20) (z_21) (s_22) (a_23) (b_24))) (eqI (cjL (x_19) (y_20) (z_21) (s_22) (0 : Int) (0 : Int)) (y_20)) false) true → True) ∧ (NIs (bite (jvB (x_19) (y_20) (z_21) (cjL (x_19) (y_20) (z_21) (s_22) (a_23) (b_24))) (eqI (cjL (x_19) (y_20) (z_21) (s_22) (0 : Int) (0 : Int)) (y_20)) false) true → (NLe 0 (0 : Int) ∧ NLt (0 : Int) (ilen (cjL (x_19) (y_20) (z_21) (s_22) (a_23) (b_24))))) ∧ (NIs (bite (jvB (x_19) (y_20) (z_21) (cjL (x_19) (y_20) (z_21) (s_22) (a_23) (b_24))) (eqI (cjL (x_19) (y_20) (z_21) (s_22) (0 : Int) (0 : Int)) (y_20)) false) true → NLt (0 : Int) (ilen (cjL (x_19) (y_20) (z_21) (s_22) (a_23) (b_24)))) ∧ (NIs (bite (jvB (x_19) (y_20) (z_21) (cjL (x_19) (y_20) (z_21) (s_22) (a_23) (b_24))) (eqI (cjL (x_19) (y_20) (z_21) (s_22) (0 : Int) (0 : Int)) (y_20)) false) true → True) ∧ (NIs (bite (jvB (x_19) (y_20) (z_21) (cjL (x_19) (y_20) (z_21) (s_22) (a_23) (b_24))) (eqI (cjL (x_19) (y_20) (z_21) (s_22) (0 : Int) (0 : Int)) (y_20)) false) true → True) ∧ (NIs (bite (jvB (x_19) (y_20) (z_21) (cjL (x_19) (y_20) (z_21) (s_22) (a_23) (b_24))) (eqI (cjL (x_19) (y_20) (z_21) (s_22) (0 : Int) (0 : Int)) (y_20)) false) true → (NLe 0 (0 : Int) ∧ NLt (0 : Int) (ilen (y_20)))) ∧ (NIs (bite (jvB (x_19) (y_20) (z_21) (cjL (x_19) (y_20) (z_21) (s_22) (a_23) (b_24))) (eqI (cjL (x_19) (y_20) (z_21) (s_22) (0 : Int) (0 : Int)) (y_20)) false) true → True) ∧ (NIs (bite (jvB (x_19) (y_20) (z_21) (cjL (x_19) (y_20) (z_21) (s_22) (a_23) (b_24))) (eqI (cjL (x_19) (y_20) (z_21) (s_22) (0 : Int) (0 : Int)) (y_20)) false) true → True) ∧ (NIs (bite (jvB (x_19) (y_20) (z_21) (cjL (x_19) (y_20) (z_21) (s_22) (a_23) (b_24))) (eqI (cjL (x_19) (y_20) (z_21) (s_22) (0 : Int) (0 : Int)) (y_20)) false) true → True) ∧ (NIs (bite (jvB (x_19) (y_20) (z_21) (cjL (x_19) (y_20) (z_21) (s_22) (a_23) (b_24))) (eqI (cjL (x_19) (y_20) (z_21) (s_22) (0 : Int) (0 : Int)) (y_20)) false) true → True) ∧ (NIs (bite (jvB (x_19) (y_20) (z_21) (cjL (x_19) (y_20) (z_21) (s_22) (a_23) (b_24))) (eqI (cjL (x_19) (y_20) (z_21) (s_22) (0 : Int) (0 : Int)) (y_20)) false) true → True) ∧ (NIs (bite (jvB (x_19) (y_20) (z_21) (cjL (x_19) (y_20) (z_21) (s_22) (a_23) (b_24))) (eqI (cjL (x_19) (y_20) (z_21) (s_22) (0 : Int) (0 : Int)) (y_20)) false) true → True) ∧ (NIs (bite (jvB (x_19) (y_20) (z_21) (cjL (x_19) (y_20) (z_21) (s_22) (a_23) (b_24))) (eqI (cjL (x_19) (y_20) (z_21) (s_22) (0 : Int) (0 : Int)) (y_20)) false) true → True) ∧ (True) ∧ (True) ∧ True) ∧ (((bite (bite (jvB (x_19) (y_20) (z_21) (cjL (x_19) (y_20) (z_21) (s_22) (a_23) (b_24))) (eqI (cjL (x_19) (y_20) (z_21) (s_22) (0 : Int) (0 : Int)) (y_20)) false) (ieq (geti (cjL (x_19) (y_20) (z_21) (s_22) (a_23) (b_24)) (0 : Int)) (iadd (geti (y_20) (0 : Int)) (imul (a_23) (s_22)))) false) : Bool) = (true)) ∧ True)))))))))))))) = ev sig_laws_FnCellJoints xs_laws_FnCellJoints Try.f7.ntmps (fun b => []) (codeOf Try.f7) 0 (initS [.s (.rdr n)]) (retK Try.f7.results.toList [.s (.bool (true))]) := by kernel_rfl
set_option maxHeartbeats 400000 in
theorem F_laws_FnCellJoints : FunOK 7 g_laws_FnCellJoints := by
  refine fun_F (by kernel_rfl) Try.func7 rfl (by kernel_rfl) sig_laws_FnCellJoints_ok xs_laws_FnCellJoints_ok ?_
  intro avs sg h hn hl
  unfold g_laws_FnCellJoints at h
  split at h
  · rename_i n
    injection h with h; subst h
    refine ⟨by kernel_rfl, fun b => [], Eq.mp (V_laws_FnCellJoints n) ?_⟩
    simp only [true_and, and_true, implies_true, and_self, forall_const, true_implies, lenA, lenL, SV.lenOK, Cont.lenOK] at hn hl ⊢
    simp only [ilt_t, ilt_f, ile_t, ile_f, ieq_t, ieq_f, bnot_e, band_e, bite_and, bite_or, NLt_e, NLe_e, NNe_e, NIs_e, imax_e, imin_e, irem_e, Bool.not_eq_true', Bool.not_eq_false', Bool.and_eq_true, Bool.or_eq_true, Bool.or_eq_false_iff, Bool.and_eq_false_iff, Cont.pts.injEq, Cont.ints.injEq, Cont.bools.injEq, Cont.ptss.injEq, Cont.intss.injEq, Cont.boolss.injEq, true_and, and_true, implies_true, eqI_same]
    intro h
    refine ⟨h, fun x y z s a b hp => ⟨by simp, ?_⟩⟩
    intro _ hne
    cases hB : cjB x y z s a b with
    | false => exfalso; apply hne; unfold cjL; rw [hB]; exact ilen_nil
    | true =>
      obtain ⟨hg, l2, l3, p1, p2, -, -⟩ := cj_parts hB
      obtain ⟨ha, hl, s1, s2⟩ := gsB_parts hg
      obtain ⟨e1, e2, b1, b2⟩ := cj_val hB
      have hl2 : ilen (cjL x y z s a b) = 2 := by rw [e1]; simp [ilen]
      have g0 : geti (cjL x y z s a b) 0 = geti y 0 + a * s := by rw [e1]; simp [geti]
      have g1 : geti (cjL x y z s a b) 1 = geti y 1 + b * s := by rw [e1]; simp [geti]
      have hjv : jvB x y z (cjL x y z s a b) = true := by
        unfold jvB
        rw [ha, hl2, hl]
        simp only [decide_true, Bool.true_and]
        refine allN_iff.2 fun i i0 i1 => ?_
        rcases (by omega : i = 0 ∨ i = 1) with rfl | rfl
        · rw [g0]; unfold inB; simp; omega
        · rw [g1]; unfold inB; simp; omega
      have hB0 : cjB x y z s 0 0 = true := by
        obtain ⟨_, _, _, _, _, k0, k1⟩ := cj_parts hB
        have q0 := gsN_e hg (i := 0) (by omega) (by omega)
        have q1 := gsN_e hg (i := 1) (by omega) (by omega)
        unfold cjB
        rw [k0, k1, isub_e (by omega) (by omega), isub_e (by omega) (by omega)]
        unfold inB; simp; omega
      have h00 : cjL x y z s 0 0 = y := by
        rw [(cj_val hB0).1, Int.zero_mul, Int.add_zero, Int.add_zero]
        refine ints_ext (by rw [l2]; simp [ilen]) fun j j0 j1 => ?_
        have : j < 2 := by simpa [ilen] using j1
        rcases (by omega : j = 0 ∨ j = 1) with rfl | rfl <;> simp [geti]
      rw [hjv, h00, eqI_same, hl2, e2, g0]
      exact ⟨⟨fun _ => by omega, fun _ => by omega, fun _ => by omega⟩, ⟨rfl, rfl⟩, rfl⟩
  · cases h
theorem fnCellJoints_walk (w : World) (v0 : Value) (x0 : Nat) (w0 : BytesArg w v0 x0) : Calls Try.prog 7 #[v0] w fun e w' => e = .returned (.bool true) ∧ Bel w w' :=
  walk_of F_laws_FnCellJoints (avs := [.s (.rdr x0)]) rfl trivial ⟨bytes_reads w0, trivial⟩
set_option maxRecDepth 100000 in
theorem fnCellJoints_lifted (os : Os) (started : os.Started) (H : Type) (enc : TypeId × Value → H) :
    ReturnsInHanded {} Try.checked os 7 .any (Rows.fnCellJointsSpec.pre6 enc Try.prog Try.f7 Rows.fnCellJointsRow.domain false) (Rows.fnCellJointsSpec.post enc Try.prog Try.f7 false true false false) := by
  have own : ownKnob Try.prog.godebug = none := by kernel_rfl
  have laidOut : laidOutB Try.prog = true := by kernel_rfl
  refine returnsInHanded_of_change (C := Try.checked) own started (by kernel_rfl) Try.func7
    (ChangeSpec.witness6 (enc := enc) (C := Try.checked) false ⟨#[], #[.slice none 0 0], []⟩ 8 (by kernel_rfl) (by kernel_rfl) (by kernel_rfl) (by kernel_rfl)) ?_
  intro W base args ds gs before hval0 hW hcnd _
  have hval : ∀ (j : Nat) t v, Try.f7.params[j]? = some t → args[j]? = some v → Value.okWide Try.prog W .any base t v := hval0
  have hW' := hW
  obtain ⟨p, q, hA0, hV, rfl, hfz, hnd⟩ := hW
  have hA : DataW.TrodAll enc Try.prog W 0 (fun _ => true) true Try.f7.params.toList args.toList ds p := hA0
  rw [Try.params7] at hA hval
  obtain ⟨v0, vs0, d0, ds0, p0, q0, hargs, rfl, rfl, h0, r0⟩ := trodAll_cons hA
  obtain ⟨rfl, rfl, rfl⟩ := trodAll_nil r0
  obtain rfl : args = #[v0] := by cases args; simp_all
  obtain ⟨rfl, rfl⟩ := trodVars_none hV
  have k0 := h0
  have lt0 : ∀ x ∈ p0, x.block < W.heap.size := by obtain ⟨m, hm⟩ := k0; exact DataW.trod_lt m _ _ _ hm
  obtain ⟨x0, w0⟩ := opn_bytes (hval 0 40 v0 rfl rfl) h0
  clear hA0 hval0
  refine (fnCellJoints_walk W v0 x0 w0).mono fun e W' ⟨he, bel⟩ => ?_
  subst he
  exact ⟨_, rfl, _, _, _, [], _, [], hW', trodAll_mk1 (shut_bool Try.underlying4 _), (trodAll_cons_mk (Below.trod laidOut (by kernel_rfl) (of_decide_eq_true (by kernel_rfl)) k0 bel lt0) trodAll_mk0), rfl, Below.frame bel _, fun h => by cases h⟩
theorem fnCellJoints_over : Rows.fnCellJointsRow.holds Try.pinned (OpenSpec.ofChange Rows.fnCellJointsSpec) :=
  OpenClaim.holds_of_wide 7 Try.f7 rfl rfl rfl rfl rfl rfl rfl ⟨rfl, rfl, rfl, rfl, rfl⟩ rfl rfl rfl rfl rfl (by kernel_rfl) Try.func7 (by kernel_rfl)
    (of_decide_eq_true (by kernel_rfl)) (by unfold Func.isWrapper; first | (rw [if_pos (by decide +kernel)]; kernel_rfl) | (rw [if_neg (by decide +kernel)]; exact ⟨rfl, rfl⟩))
    (fun os started H enc _ => fnCellJoints_lifted os started H enc)
theorem fnCellJoints_proved : Rows.FnCellJointsSaid := fnCellJoints_over
#print axioms fnCellJoints_proved
end Go.Proofs.Ytnhgojcleepdiaa
