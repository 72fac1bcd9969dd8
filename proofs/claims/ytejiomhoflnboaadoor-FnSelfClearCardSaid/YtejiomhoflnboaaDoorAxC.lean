/- Code that only reckons and reads, carried out on concrete values. -/
import Derived.Test.YtejiomhoflnboaaDoorAx2
namespace Go.Proofs.YtejiomhoflnboaaDoor
open Go.RowKit
set_option maxRecDepth 10000
/-- What a computation gives that asks nothing of the world but cells that are known. -/
noncomputable def pval {α : Type} (ld : Addr → Option Value) : Sem α → Option α
  | .pure a => some a
  | .load _ ad k => match ld ad with
    | some v => pval ld (k v)
    | none => none
  | .program k => pval ld (k Tryd.prog)
  | .mark _ k => pval ld k
  | _ => none
theorem pval_ok {α : Type} {ld : Addr → Option Value} {w : World} (hld : ∀ ad u, ld ad = some u → w.cell? ad = some u) : ∀ (s : Sem α) (v : α), pval ld s = some v → s.run Tryd.prog w = .ok v w := by
  intro s
  induction s with
  | pure a => intro v h; simp only [pval, Option.some.injEq] at h; subst h; rfl
  | load m ad k ih =>
    intro v h
    simp only [pval] at h
    cases hl : ld ad with
    | none => rw [hl] at h; cases h
    | some u =>
      rw [hl] at h
      have := ih u v h
      simp only [Sem.run, hld ad u hl]
      exact this
  | program k ih => intro v h; simp only [pval] at h; exact ih _ v h
  | mark m k ih => intro v h; simp only [pval] at h; exact ih v h
  | _ => intro v h; simp only [pval] at h; cases h
inductive CE
  | normal
  | exit (i : Nat)
  | ret
def CE.out : CE → Exit
  | .normal => .normal
  | .exit i => .exit i
  | .ret => .ret
/-- The slots that are known, the last written first. -/
def lk : List (Nat × Value) → Nat → Value
  | [], _ => undef
  | (i, v) :: m, s => match Nat.beq i s with
    | true => v
    | false => lk m s
def evC (m : List (Nat × Value)) : Operand → Value
  | .tmp t => lk m t
  | .const v => v
  | .global g => .pointer (some ⟨g, 0, none⟩)
  | .func f => .func (.func f) #[] #[]
structure Ag (N : Nat) (m : List (Nat × Value)) (a : Act) : Prop where
  size : a.tmps.size = N
  all : ∀ s, a.tmps.getD s undef = lk m s
  dfs : a.defers = []
theorem Ag.eval {N : Nat} {m : List (Nat × Value)} {a : Act} (h : Ag N m a) : a.eval = evC m := by
  funext x
  cases x with
  | tmp t => exact h.all t
  | _ => rfl
theorem Ag.put {N : Nat} {m : List (Nat × Value)} {a : Act} (h : Ag N m a) {d : Nat} (hd : d < N) (v : Value) : Ag N ((d, v) :: m) (a.put (some d) v) := by
  refine ⟨by simp [Act.put, h.size], fun s => ?_, h.dfs⟩
  show (a.tmps.setIfInBounds d v).getD s undef = lk ((d, v) :: m) s
  unfold lk
  cases hb : Nat.beq d s with
  | true =>
    have e : d = s := Nat.eq_of_beq_eq_true hb
    subst e
    simp [Array.getD_eq_getD_getElem?, h.size, hd]
  | false =>
    have e : d ≠ s := fun e => by rw [e, Nat.beq_refl] at hb; cases hb
    rw [← h.all s]
    simp [Array.getD_eq_getD_getElem?, Array.getElem?_setIfInBounds, e]
def cPut (N : Nat) (m : List (Nat × Value)) : Option Tmp → Value → Option (List (Nat × Value))
  | some d, v => match Nat.blt d N with
    | true => some ((d, v) :: m)
    | false => none
  | none, _ => some m
theorem cPut_ok {N : Nat} {m m' : List (Nat × Value)} {a : Act} (h : Ag N m a) {d : Option Tmp} {v : Value} (hp : cPut N m d v = some m') : Ag N m' (a.put d v) := by
  cases d with
  | none => simp only [cPut, Option.some.injEq] at hp; subst hp; exact h
  | some d =>
    simp only [cPut] at hp
    split at hp
    · rename_i hb
      injection hp with hp; subst hp
      exact h.put (Nat.le_of_ble_eq_true hb) v
    · cases hp
def cWant (ops : List Oper) (m : List (Nat × Value)) (o : Oper) : Option Bool := match o.guard with
  | none => some true
  | some (j, b) => match ops[j]? with
    | some oj => (match oj.dst with
      | some s => (match lk m s with
        | .bool c => some (c == b)
        | _ => none)
      | none => none)
    | none => none
theorem cWant_ok {N : Nat} {m : List (Nat × Value)} {a : Act} (h : Ag N m a) {ops : List Oper} {o : Oper} {r : Bool} (hw : cWant ops m o = some r) : Region.wanted o (yielded ops.toArray a.tmps) = r := by
  unfold cWant at hw
  split at hw
  · rename_i hg
    injection hw with hw; subst hw
    simp [Region.wanted, hg]
  · rename_i j b hg
    split at hw
    · rename_i oj hj
      split at hw
      · rename_i s hd
        split at hw
        · rename_i c hc
          injection hw with hw; subst hw
          have hs' := h.all s
          rw [hc] at hs'
          have hv : a.tmps[s]? = some (.bool c) := by
            rw [Array.getD_eq_getD_getElem?] at hs'
            cases hx : a.tmps[s]? with
            | none => rw [hx] at hs'; cases hs'
            | some u => rw [hx] at hs'; simpa using hs'
          simp [Region.wanted, hg, yielded, hj, hd, hs', hv]
        · cases hw
      · cases hw
    · cases hw
/-- Two functions without a body. -/
def xf (f : FuncId) (args : List Value) : Option Value := match Nat.beq f 92 with
  | true => (match args with
    | [.float .f64 b] => some (.int .u64 b)
    | _ => none)
  | false => (match Nat.beq f 93 with
    | true => (match args with
      | [.int .u64 n] => some (.float .f64 n.toNat)
      | _ => none)
    | false => none)
theorem xf_1 (b : Nat) : pval (fun _ => none) (callFunc 92 #[.float .f64 b]) = some (.value (.int .u64 b)) := by kernel_rfl
theorem xf_2 (n : Int) : pval (fun _ => none) (callFunc 93 #[.int .u64 n]) = some (.value (.float .f64 n.toNat)) := by kernel_rfl
theorem xf_ok {f : FuncId} {args : List Value} {v : Value} (h : xf f args = some v) (w : World) : (callFunc f args.toArray).run Tryd.prog w = .ok (.value v) w := by
  unfold xf at h
  split at h
  · rename_i hb
    obtain rfl := Nat.eq_of_beq_eq_true hb
    split at h
    · injection h with h; subst h
      exact pval_ok (fun _ _ h => by cases h) _ _ (xf_1 _)
    · cases h
  · split at h
    · rename_i hb
      obtain rfl := Nat.eq_of_beq_eq_true hb
      split at h
      · injection h with h; subst h
        exact pval_ok (fun _ _ h => by cases h) _ _ (xf_2 _)
      · cases h
    · cases h
noncomputable def cSem (ld : Addr → Option Value) (m : List (Nat × Value)) (o : Oper) : Option Next := match o.op with
  | .call ⟨.value (.func f), args, _⟩ => (match xf f (args.toList.map (evC m)) with
    | some v => some (.value v)
    | none => pval ld (execOp (evC m) o))
  | _ => pval ld (execOp (evC m) o)
theorem cSem_ok {ld : Addr → Option Value} {w : World} (hld : ∀ ad u, ld ad = some u → w.cell? ad = some u) {m : List (Nat × Value)} {o : Oper} {r : Next} (h : cSem ld m o = some r) : (execOp (evC m) o).run Tryd.prog w = .ok r w := by
  unfold cSem at h
  split at h
  · rename_i f args ats ho
    split at h
    · rename_i v hx
      injection h with h; subst h
      have e : execOp (evC m) o = callFunc f (#[] ++ args.map (evC m) ++ #[]) := by
        obtain ⟨dst, op, ty, pos, af, gd⟩ := o
        simp only at ho
        subst ho
        rfl
      rw [e, Array.empty_append, Array.append_empty]
      have e2 : args.map (evC m) = (args.toList.map (evC m)).toArray := by apply Array.ext'; simp
      rw [e2]
      exact xf_ok hx w
    · exact pval_ok hld _ _ h
  · exact pval_ok hld _ _ h
noncomputable def cOps (ld : Addr → Option Value) (cf : FuncId → List Value → Option Value) (N : Nat) (ops : List Oper) : List Oper → List (Nat × Value) → Option (List (Nat × Value))
  | [], m => some m
  | o :: rest, m => match cWant ops m o with
    | some true => (match cSem ld m o with
      | some (.value v) => (match cPut N m o.dst v with
        | some m' => cOps ld cf N ops rest m'
        | none => none)
      | some .skip => (match cPut N m o.dst undef with
        | some m' => cOps ld cf N ops rest m'
        | none => none)
      | some (.enter f args) => (match cf f args.toList with
        | some v => (match cPut N m o.dst v with
          | some m' => cOps ld cf N ops rest m'
          | none => none)
        | none => none)
      | _ => none)
    | some false => (match cPut N m o.dst undef with
      | some m' => cOps ld cf N ops rest m'
      | none => none)
    | none => none
noncomputable def cCode (ld : Addr → Option Value) (cf : FuncId → List Value → Option Value) (N : Nat) : Code → List (Nat × Value) → Option (CE × List (Nat × Value))
  | .skip, a => some (.normal, a)
  | .region _ ops false, a => (match cOps ld cf N ops.toList ops.toList a with
    | some a' => some (.normal, a')
    | none => none)
  | .seq x y, a => (match cCode ld cf N x a with
    | some (.normal, a') => cCode ld cf N y a'
    | r => r)
  | .cond c x y, a => (match evC a c with
    | .bool true => cCode ld cf N x a
    | .bool false => cCode ld cf N y a
    | _ => none)
  | .block i x, a => (match cCode ld cf N x a with
    | some (.exit j, a') => if j = i then some (.normal, a') else some (.exit j, a')
    | r => r)
  | .exit i, a => some (.exit i, a)
  | .ret, a => some (.ret, a)
  | _, _ => none
def ini : Nat → List Value → List (Nat × Value)
  | _, [] => []
  | i, v :: l => (i, v) :: ini (i + 1) l
theorem ini_lk : ∀ (l : List Value) (i s : Nat), lk (ini i l) s = if i ≤ s then l.getD (s - i) undef else undef
  | [], i, s => by simp [ini, lk]
  | v :: l, i, s => by
    unfold ini lk
    cases hb : Nat.beq i s with
    | true =>
      have e : i = s := Nat.eq_of_beq_eq_true hb
      subst e; simp
    | false =>
      have e : i ≠ s := fun e => by rw [e, Nat.beq_refl] at hb; cases hb
      show lk (ini (i + 1) l) s = _
      rw [ini_lk l (i + 1) s]
      by_cases h : i ≤ s
      · rw [if_pos h, if_pos (by omega), show s - i = (s - (i + 1)) + 1 by omega]; simp
      · rw [if_neg h, if_neg (by omega)]
theorem ini_ag {args : List Value} {n : Nat} (hn : args.length ≤ n) : Ag n (ini 0 args) { tmps := args.toArray ++ Array.replicate (n - args.toArray.size) undef, defers := [] } := by
  refine ⟨by simp; omega, fun s => ?_, rfl⟩
  rw [ini_lk, if_pos (Nat.zero_le _), Nat.sub_zero]
  simp only [Array.getD_eq_getD_getElem?, List.getD_eq_getElem?_getD]
  by_cases h : s < args.length
  · rw [Array.getElem?_append_left (by simpa using h)]; simp
  · rw [Array.getElem?_append_right (by simpa using h)]
    simp [Array.getElem?_replicate, show args[s]? = none by simp; omega]
    split <;> rfl
noncomputable def cFun (ld : Addr → Option Value) : Nat → FuncId → List Value → Option Value
  | 0, _, _ => none
  | n + 1, f, args => match Tryd.prog.funcs[f]? with
    | some fn => (match fn.body, fn.results.toList, Nat.ble args.length fn.ntmps with
      | some c, [.tmp t], true => (match cCode ld (cFun ld n) fn.ntmps c (ini 0 args) with
        | some (.exit _, _) => none
        | some (_, m) => some (lk m t)
        | none => none)
      | _, _, _ => none)
    | none => none
section
variable {ld : Addr → Option Value} {w : World} {cf : FuncId → List Value → Option Value} {N : Nat}
def CFok (cf : FuncId → List Value → Option Value) (w : World) : Prop := ∀ f args v, cf f args = some v → Calls Tryd.prog f args.toArray w fun e w' => e = .returned v ∧ w' = w
theorem cOps_ok (hld : ∀ ad u, ld ad = some u → w.cell? ad = some u) (hcf : CFok cf w) {ops : List Oper} {Q : Exit → Act → World → Prop} : ∀ (l : List Oper) (m m' : List (Nat × Value)) (a : Act), Ag N m a → cOps ld cf N ops l m = some m' → (∀ a', Ag N m' a' → Q .normal a' w) → wpList Tryd.prog ops.toArray Q l a w
  | [], m, m', a, hm, h, hq => by simp only [cOps, Option.some.injEq] at h; subst h; exact hq a hm
  | o :: rest, m, m', a, hm, h, hq => by
    refine wpList_step fun K hK => ?_
    simp only [cOps] at h
    split at h
    · rename_i hw
      rw [if_pos (cWant_ok hm hw)]
      split at h
      · rename_i v hv
        split at h
        · rename_i m1 hp
          unfold Oper.wp
          rw [hm.eval, cSem_ok hld hv]
          exact hK _ _ (cOps_ok hld hcf rest m1 m' _ (cPut_ok hm hp) h hq)
        · cases h
      · rename_i hv
        split at h
        · rename_i m1 hp
          unfold Oper.wp
          rw [hm.eval, cSem_ok hld hv]
          exact hK _ _ (cOps_ok hld hcf rest m1 m' _ (cPut_ok hm hp) h hq)
        · cases h
      · rename_i f args hv
        split at h
        · rename_i v hf
          split at h
          · rename_i m1 hp
            unfold Oper.wp
            rw [hm.eval, cSem_ok hld hv]
            show Calls Tryd.prog f args w _
            have hc := hcf f args.toList v hf
            rw [Array.toArray_toList] at hc
            refine hc.mono ?_
            rintro e w' ⟨rfl, hw'⟩
            rw [hw']
            exact hK _ _ (cOps_ok hld hcf rest m1 m' _ (cPut_ok hm hp) h hq)
          · cases h
        · cases h
      · cases h
    · rename_i hw
      rw [cWant_ok hm hw]
      split at h
      · rename_i m1 hp
        exact hK _ _ (cOps_ok hld hcf rest m1 m' _ (cPut_ok hm hp) h hq)
      · cases h
    · cases h
theorem cCode_ok (hld : ∀ ad u, ld ad = some u → w.cell? ad = some u) (hcf : CFok cf w) : ∀ (c : Code) (m : List (Nat × Value)) (a : Act) (r : CE × List (Nat × Value)) (Q : Exit → Act → World → Prop), Ag N m a → cCode ld cf N c m = some r → (∀ a', Ag N r.2 a' → Q r.1.out a' w) → c.wp Tryd.prog Q a w := by
  intro c
  induction c with
  | skip => intro m a r Q hm h hq; simp only [cCode, Option.some.injEq] at h; subst h; exact wp_skip (hq a hm)
  | region i ops d =>
    intro m a r Q hm h hq
    cases d with
    | true => simp only [cCode] at h; cases h
    | false =>
      simp only [cCode] at h
      split at h
      · rename_i m' ha
        injection h with h; subst h
        refine wp_region_list ?_
        have := cOps_ok (Q := Q) hld hcf _ _ _ _ hm ha hq
        rwa [Array.toArray_toList] at this
      · cases h
  | seq x y ihx ihy =>
    intro m a r Q hm h hq
    simp only [cCode] at h
    split at h
    · rename_i m' ha
      exact wp_seq (ihx m a _ _ hm ha fun a' hm' => ihy m' a' r Q hm' h hq)
    · rename_i hn
      refine wp_seq (ihx m a r _ hm h fun a' hm' => ?_)
      obtain ⟨e, m'⟩ := r
      cases e with
      | normal => exact absurd h (hn m')
      | exit j => exact hq a' hm'
      | ret => exact hq a' hm'
  | cond c x y ihx ihy =>
    intro m a r Q hm h hq
    simp only [cCode] at h
    split at h
    · rename_i hc; exact wp_cond_true (by rw [hm.eval]; exact hc) (ihx m a r Q hm h hq)
    · rename_i hc; exact wp_cond_false (by rw [hm.eval]; exact hc) (ihy m a r Q hm h hq)
    · cases h
  | block i x ih =>
    intro m a r Q hm h hq
    simp only [cCode] at h
    split at h
    · rename_i j m' ha
      refine wp_block (ih m a _ _ hm ha fun a' hm' => ?_)
      split at h
      · rename_i hj
        injection h with h; subst h
        simp only [CE.out, Exit.inBlock, if_pos hj]; exact hq a' hm'
      · rename_i hj
        injection h with h; subst h
        simp only [CE.out, Exit.inBlock, if_neg hj]; exact hq a' hm'
    · rename_i hn
      refine wp_block (ih m a r _ hm h fun a' hm' => ?_)
      obtain ⟨e, m'⟩ := r
      cases e with
      | normal => exact hq a' hm'
      | exit j => exact absurd h (hn j m')
      | ret => exact hq a' hm'
  | exit i => intro m a r Q hm h hq; simp only [cCode, Option.some.injEq] at h; subst h; exact wp_exit (hq a hm)
  | ret => intro m a r Q hm h hq; simp only [cCode, Option.some.injEq] at h; subst h; exact wp_ret (hq a hm)
  | _ => intro m a r Q hm h hq; simp only [cCode] at h; cases h
theorem results_tmp {fn : Func} {t : Nat} (h : fn.results.toList = [.tmp t]) (tmps : Array Value) (w : World) : (results fn tmps).run Tryd.prog w = .ok (tmps.getD t undef) w := by
  have h' : fn.results = #[.tmp t] := by apply Array.ext'; simpa using h
  unfold results
  simp [h', go_sem]
theorem cFun_ok (hld : ∀ ad u, ld ad = some u → w.cell? ad = some u) : ∀ n : Nat, CFok (cFun ld n) w
  | 0 => fun f args v h => by cases h
  | n + 1 => fun f args v h => by
    simp only [cFun] at h
    split at h
    · rename_i fn hf
      split at h
      · rename_i c t hb hr hl
        refine calls_of_wp hf hb ?_
        split at h
        · cases h
        · rename_i e m hn hc
          injection h with h; subst h
          refine cCode_ok hld (cFun_ok hld n) c _ _ _ _ (ini_ag (Nat.le_of_ble_eq_true hl)) hc fun a' hm' => ?_
          cases e with
          | normal => exact ⟨hm'.dfs, _, results_tmp hr _ _, by rw [hm'.all], rfl⟩
          | exit j => exact (hn j rfl).elim
          | ret => exact ⟨hm'.dfs, _, results_tmp hr _ _, by rw [hm'.all], rfl⟩
        · cases h
      · cases h
    · cases h
end
theorem ag_arr (l : List Value) : Ag l.length (ini 0 l) { tmps := l.toArray, defers := [] } := by
  refine ⟨by simp, fun s => ?_, rfl⟩
  rw [ini_lk, if_pos (Nat.zero_le _), Nat.sub_zero]
  simp [Array.getD_eq_getD_getElem?, List.getD_eq_getElem?_getD]
/-- What the package-level variables hold. -/
def cosC : List Nat := [13666448263388469915, 4477121864728985349, 13732177093698800582, 4537941361668146421, 13787419979223748497, 4586165620538955083]
def sinC : List Nat := [4460209587652500685, 13716528389658582877, 4523617212962785441, 13774824197404483331, 4575957461383575504, 13818544856648471880]
def ldG (ad : Addr) : Option Value := match ad with
  | ⟨1, j, none⟩ => (cosC[j]?).map fun b => .float .f64 b
  | ⟨2, j, none⟩ => (sinC[j]?).map fun b => .float .f64 b
  | _ => none
theorem ldG_blk {ad : Addr} {u : Value} (h : ldG ad = some u) : ad.block < 3 := by
  unfold ldG at h
  split at h
  · show 1 < 3; omega
  · show 2 < 3; omega
  · cases h
def NG : Nat := 3
def GInv (w : World) : Prop := NG ≤ w.heap.size ∧ ∀ ad u, ldG ad = some u → w.cell? ad = some u
theorem GInv.keep {w w' : World} {X : Option Nat} (h : GInv w) (hg : w.grownBy w' X) (hx : ∀ b, X = some b → NG ≤ b) : GInv w' := by
  refine ⟨Nat.le_trans h.1 hg.size, fun ad u hu => ?_⟩
  have hb := ldG_blk hu
  have h1 : NG ≤ w.heap.size := h.1
  unfold NG at h1
  rw [← h.2 ad u hu]
  exact World.cell?_of_block (w := w) (hg.block ad.block (by omega) (fun e => by have := hx _ e.symm; unfold NG at this; omega))
theorem GInv.ng {w : World} (h : GInv w) : NG ≤ w.heap.size := h.1
end Go.Proofs.YtejiomhoflnboaaDoor
