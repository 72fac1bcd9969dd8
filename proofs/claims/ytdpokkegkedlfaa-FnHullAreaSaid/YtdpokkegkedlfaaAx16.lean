/- A function by the evaluation of its body. -/
import Derived.Test.YtdpokkegkedlfaaAx15
namespace Go.Proofs.Ytdpokkegkedlfaa
open Go.RowKit
set_option maxRecDepth 10000
def initT : Nat → List AV → List (Nat × AV)
  | _, [] => []
  | i, a :: l => (i, a) :: initT (i + 1) l
def initS (l : List AV) : St := ⟨initT 0 l, [], 1⟩
def firstSV : Bx → SV
  | .box _ => .ptr 0 0
  | .row _ _ => .row 0
  | .mp _ => .row 0
def initX (bx : Bx) (l : List AV) : St := ⟨initT 0 (.s (firstSV bx) :: l), [(0, bx)], 1⟩
def resF (σ : St) : ResultVar → Option AV
  | .tmp t => some (lookT σ.t t)
  | .cell s t => match lookT σ.t s, tyOf t with
    | .s (.ptr k 0), some (.st z) => match lookB σ.b k with
      | some (.box l) => if l.length == z.length then some (.agg l) else none
      | _ => none
    | _, _ => none
def mSV (σ : St) : SV → SV → Prop
  | .int x, .int y => x = y
  | .bool x, .bool y => x = y
  | .rdr x, .rdr y => x = y
  | .nil, .nil => True
  | .nil, .view c => c.ilen = 0
  | .view c, .view c' => c = c'
  | .row k, .view c' => match lookB σ.b k with
    | some (.row _ c) => Nat.blt 0 k = true ∧ c = c'
    | _ => False
  | _, _ => False
def mSVs (σ : St) : List SV → List SV → Prop
  | [], [] => True
  | a :: l, b :: m => mSV σ a b ∧ mSVs σ l m
  | _, _ => False
def mRV (σ : St) : AV → RV → Prop
  | .s (.row k), .nrow e c => match lookB σ.b k with
    | some (.row e' c') => (Nat.blt 0 k && e' == e) = true ∧ c' = c
    | _ => False
  | .s a, .s b => mSV σ a b
  | .agg l, .agg m => mSVs σ l m
  | _, _ => False
def mRes (σ : St) : List ResultVar → List RV → Prop
  | [], [] => True
  | r :: l, v :: m => match resF σ r with
    | some a => mRV σ a v ∧ mRes σ l m
    | none => False
  | _, _ => False
def retK (rs : List ResultVar) (ret : List RV) : XE → St → Prop
  | .exit _, _ => False
  | .normal, σ => mRes σ rs ret
  | .ret, σ => mRes σ rs ret
def exG : List GK → (List GV → Prop) → Prop
  | [], f => f []
  | .int :: l, f => ∃ n, exG l fun g => f (.int n :: g)
  | .bool :: l, f => ∃ n, exG l fun g => f (.bool n :: g)
  | .ints :: l, f => ∃ n, exG l fun g => f (.ints n :: g)
  | .pts :: l, f => ∃ n, exG l fun g => f (.pts n :: g)
  | .bools :: l, f => ∃ n, exG l fun g => f (.bools n :: g)
  | .intss :: l, f => ∃ n, exG l fun g => f (.intss n :: g)
  | .ptss :: l, f => ∃ n, exG l fun g => f (.ptss n :: g)
  | .boolss :: l, f => ∃ n, exG l fun g => f (.boolss n :: g)
theorem exG_at : ∀ {l : List GK} {f : List GV → Prop}, exG l f → ∃ g : List GV, g.map GV.kd = l ∧ f g
  | [], f, h => ⟨[], rfl, h⟩
  | k :: l, f, h => by
    cases k
    all_goals
      obtain ⟨n, h⟩ := h
      obtain ⟨g, h1, h2⟩ := exG_at h
      exact ⟨_, by rw [List.map_cons, h1]; rfl, h2⟩
def mBX (σ : St) : Option Bx → Bx → Prop
  | some (.box l), .box m => l.all (·.free) = true ∧ m.all (·.free) = true ∧ mSVs σ l m
  | some (.row e c), .row e' c' => (e == e') = true ∧ c = c'
  | _, _ => False
def retX (rs : List ResultVar) (kinds : List GK) (post : List GV → Prop) (ret : List GV → List RV) (out : List GV → Bx) : XE → St → Prop
  | .exit _, _ => False
  | .normal, σ => exG kinds fun g => post g ∧ mRes σ rs (ret g) ∧ mBX σ (lookB σ.b 0) (out g)
  | .ret, σ => exG kinds fun g => post g ∧ mRes σ rs (ret g) ∧ mBX σ (lookB σ.b 0) (out g)
section
variable {sig : FuncId → List AV → Option Sg} {xs : XS} {σ : St} {base : Base} {N : Nat} {E : Env} {a : Act} {w : World}
theorem mSV_ok (h : Rel base N σ E a w) {s t : SV} {v : Value} (hm : mSV σ s t) (hs : s.has E w v) : t.has (EL base.L0) w v := by
  unfold mSV at hm
  split at hm
  · subst hm; exact hs
  · subst hm; exact hs
  · subst hm; exact BytesOK.less (L' := base.L0) hs h.fr.l0
  · exact hs
  · rename_i c
    rw [show v = _ from hs]
    exact nil_reads _ _ c (by rw [Cont.ilen_eq] at hm; omega)
  · subst hm; exact Reads.less (L' := base.L0) hs h.fr.l0
  · rename_i k c'
    split at hm
    · rename_i e c hb
      obtain ⟨h0, rfl⟩ := hm
      rw [show v = E.hd k from hs]
      obtain ⟨xs', h1, h2⟩ := h.mem.ok k _ hb
      refine ⟨xs', Owned.flat h1 (fun b hb' hL => ?_), h2.less h.fr.l0⟩
      have q1 := h.fr.l0lt b hL
      have q2 := blt_iff.1 h0
      rcases h.fr.own k _ b hb hb' with q3 | ⟨q3, _⟩ <;> omega
    · exact hm.elim
  · exact hm.elim
theorem mSVs_ok (h : Rel base N σ E a w) : ∀ {l m : List SV} {vs : List Value}, mSVs σ l m → hasL E w vs l → hasL (EL base.L0) w vs m
  | [], [], [], _, _ => trivial
  | [], [], _ :: _, _, hs => hs.elim
  | [], _ :: _, _, hm, _ => hm.elim
  | _ :: _, [], _, hm, _ => hm.elim
  | _ :: _, _ :: _, [], _, hs => hs.elim
  | s :: l, t :: m, v :: vs, hm, hs => ⟨mSV_ok h hm.1 hs.1, mSVs_ok h hm.2 hs.2⟩
theorem mRV_ok (h : Rel base N σ E a w) {av : AV} {rv : RV} {v : Value} (hr : mRV σ av rv) (hv : av.has E w v) : rv.has base.w.heap.size base.L0 w v := by
  unfold mRV at hr
  split at hr
  · rename_i k e c
    split at hr
    · rename_i e' c' hb
      obtain ⟨h0, rfl⟩ := hr
      simp only [Bool.and_eq_true, beq_iff_eq] at h0
      obtain ⟨h0, rfl⟩ := h0
      have hv' : v = E.hd k := hv
      rw [hv']
      obtain ⟨xs', h1, h2⟩ := h.mem.ok k _ hb
      refine ⟨xs', ⟨h1.1, ?_⟩, h2.less ?_⟩
      · rcases h1.2 with h3 | ⟨g, cap, cur, q1, q2, q3⟩
        · exact .inl h3
        · refine .inr ⟨g, cap, cur, q1, ?_, q3⟩
          have q4 := blt_iff.1 h0
          rcases h.fr.own k _ g hb (by rw [q1]; rfl) with q5 | ⟨q5, _⟩
          · exact q5
          · omega
      · intro b hb'
        rcases hb' with hb' | hb'
        · exact h.fr.l0 b hb'
        · exact h.mem.lv k _ b hb hb'
    · exact hr.elim
  · exact mSV_ok h hr hv
  · obtain ⟨cs, h1, h2⟩ := hv
    exact ⟨cs, h1, mSVs_ok h hr h2⟩
  · exact hr.elim
theorem free_mono {L : Nat → Prop} (hL : ∀ b, L b → E.lv b) {s t : SV} {v : Value} (hf : s.free = true) (hm : mSV σ s t) (hs : s.has E w v) : t.has (EL L) w v := by
  unfold mSV at hm
  split at hm
  · subst hm; exact hs
  · subst hm; exact hs
  · subst hm; exact BytesOK.less (L' := L) hs hL
  · exact hs
  · rename_i c
    rw [show v = _ from hs]
    exact nil_reads _ _ c (by rw [Cont.ilen_eq] at hm; omega)
  · subst hm; exact Reads.less (L' := L) hs hL
  · cases hf
  · exact hm.elim
theorem free_monos {L : Nat → Prop} (hL : ∀ b, L b → E.lv b) : ∀ {l m : List SV} {vs : List Value}, l.all (·.free) = true → mSVs σ l m → hasL E w vs l → hasL (EL L) w vs m
  | [], [], [], _, _, _ => trivial
  | [], [], _ :: _, _, _, hs => hs.elim
  | [], _ :: _, _, _, hm, _ => hm.elim
  | _ :: _, [], _, _, hm, _ => hm.elim
  | _ :: _, _ :: _, [], _, _, hs => hs.elim
  | s :: l, t :: m, v :: vs, hf, hm, hs => by
    simp only [List.all_cons, Bool.and_eq_true] at hf
    exact ⟨free_mono hL hf.1 hm.1 hs.1, free_monos hL hf.2 hm.2 hs.2⟩
def resM (tmps : Array Value) : ResultVar → Sem Value
  | .tmp t => pure (tmps.getD t undef)
  | .cell s t => do loadVar t (← asAddr (tmps.getD s undef))
theorem results_eq (fn : Func) (tmps : Array Value) : results fn tmps = (do
    let vs ← fn.results.mapM (resM tmps)
    pure (if h : vs.size = 1 then vs[0] else .tuple vs)) := by
  unfold results
  congr 2
theorem resF_ok (h : Rel base N σ E a w) {r : ResultVar} {av : AV} (hr : resF σ r = some av) : ∃ v, (resM a.tmps r).run Try.prog w = .ok v w ∧ av.has E w v := by
  cases r with
  | tmp t =>
    simp only [resF, Option.some.injEq] at hr
    subst hr
    exact ⟨_, rfl, h.slots t⟩
  | cell s t =>
    unfold resF at hr
    simp only at hr
    split at hr
    · rename_i k z hs ht
      split at hr
      · rename_i l hb
        split at hr
        · rename_i hl
          have hl' : l.length = z.length := beq_iff_eq.1 hl
          injection hr with hr; subst hr
          obtain ⟨g, cs, e, h1, h2, h3, h4⟩ := h.mem.ok k _ hb
          have hsl := h.slots s
          rw [hs] at hsl
          have hv : a.tmps.getD s undef = ptrIn (E.hd k) 0 := hsl
          rw [h1] at hv
          have hcl : cs.toList.length = l.length := (hasL_get h4).1
          have := run_loadAt_st ht (w := w) (b := g) (o := 0) (cs := cs.toList) (by omega) (fun j u hu => by
            rw [Nat.zero_add, cell_of_row w g j cs e (0, 0) h3]; simpa using hu)
          refine ⟨.agg cs, ?_, cs, rfl, h4⟩
          have hv' : a.tmps.getD s undef = .pointer (some ⟨g, 0, none⟩) := hv
          simp only [resM, hv']
          simp only [Instr.loadAt, Instr.sureAddr, Sem.run_bind, Sem.run_pure, Result.andThen_ok] at this
          simp [asAddr, this]
        · cases hr
      · cases hr
    · cases hr
theorem resFs_cons {r : ResultVar} {rs : List ResultVar} {l : List RV} (h : Rel base N σ E a w) (hl : mRes σ (r :: rs) l) : ∃ v rv m, (resM a.tmps r).run Try.prog w = .ok v w ∧ (∃ av, mRV σ av rv ∧ av.has E w v) ∧ l = rv :: m ∧ mRes σ rs m := by
  cases l with
  | nil => exact hl.elim
  | cons rv m =>
    unfold mRes at hl
    split at hl
    · rename_i av hav
      obtain ⟨u, h1, h2⟩ := resF_ok h hav
      exact ⟨u, rv, m, h1, ⟨av, hl.1, h2⟩, rfl, hl.2⟩
    · exact hl.elim
theorem resFs_nil {l : List RV} (hl : mRes σ [] l) : l = [] := by
  cases l with
  | nil => rfl
  | cons _ _ => exact hl.elim
/-- The values handed back, and that a single new slice is the row itself. -/
theorem results_run (h : Rel base N σ E a w) {fn : Func} {l : List RV} (hl : mRes σ fn.results.toList l) (hn : fn.results.toList.length ≤ 5) (h0 : 0 ≤ fn.results.toList.length) :
    ∃ v, (results fn a.tmps).run Try.prog w = .ok v w ∧ retOK base.w.heap.size base.L0 w v l ∧ ∀ b, retL base.L0 v l b → E.lv b := by
  rw [results_eq]
  obtain ⟨rs, hrs⟩ : ∃ rs, fn.results = rs := ⟨_, rfl⟩
  rw [hrs] at hl hn h0 ⊢
  obtain ⟨rl⟩ := rs
  simp only at hl hn h0
  match rl, hl, hn, h0 with
  | [r1], g0, _, _ =>
    obtain ⟨v1, x1, m1, e1, ⟨a1, p1, q1⟩, k1, g1⟩ := resFs_cons h g0
    have z := resFs_nil g1
    subst z k1
    refine ⟨v1, by simp [e1], mRV_ok h p1 q1, fun b hb => ?_⟩
    cases x1 with
    | nrow e c =>
      rcases hb with hb | hb
      · exact h.fr.l0 b hb
      · unfold mRV at p1
        split at p1
        · rename_i k e' c' heq
          split at p1
          · rename_i hbk
            rw [show v1 = E.hd k from q1] at hb
            exact h.mem.lv k _ b hbk hb
          · exact p1.elim
        · rename_i heq; cases heq
        · rename_i heq; cases heq
        · exact p1.elim
    | _ => exact h.fr.l0 b hb
  | [r1, r2], g0, _, _ =>
    obtain ⟨v1, x1, m1, e1, ⟨a1, p1, q1⟩, k1, g1⟩ := resFs_cons h g0
    obtain ⟨v2, x2, m2, e2, ⟨a2, p2, q2⟩, k2, g2⟩ := resFs_cons h g1
    have z := resFs_nil g2
    subst z k2 k1
    exact ⟨.tuple #[v1, v2], by simp [e1, e2], ⟨_, rfl, mRV_ok h p1 q1, mRV_ok h p2 q2, trivial⟩, fun b hb => h.fr.l0 b (by cases x1 <;> exact hb)⟩
  | [r1, r2, r3], g0, _, _ =>
    obtain ⟨v1, x1, m1, e1, ⟨a1, p1, q1⟩, k1, g1⟩ := resFs_cons h g0
    obtain ⟨v2, x2, m2, e2, ⟨a2, p2, q2⟩, k2, g2⟩ := resFs_cons h g1
    obtain ⟨v3, x3, m3, e3, ⟨a3, p3, q3⟩, k3, g3⟩ := resFs_cons h g2
    have z := resFs_nil g3
    subst z k3 k2 k1
    exact ⟨.tuple #[v1, v2, v3], by simp [e1, e2, e3], ⟨_, rfl, mRV_ok h p1 q1, mRV_ok h p2 q2, mRV_ok h p3 q3, trivial⟩, fun b hb => h.fr.l0 b (by cases x1 <;> exact hb)⟩
  | [r1, r2, r3, r4], g0, _, _ =>
    obtain ⟨v1, x1, m1, e1, ⟨a1, p1, q1⟩, k1, g1⟩ := resFs_cons h g0
    obtain ⟨v2, x2, m2, e2, ⟨a2, p2, q2⟩, k2, g2⟩ := resFs_cons h g1
    obtain ⟨v3, x3, m3, e3, ⟨a3, p3, q3⟩, k3, g3⟩ := resFs_cons h g2
    obtain ⟨v4, x4, m4, e4, ⟨a4, p4, q4⟩, k4, g4⟩ := resFs_cons h g3
    have z := resFs_nil g4
    subst z k4 k3 k2 k1
    exact ⟨.tuple #[v1, v2, v3, v4], by simp [e1, e2, e3, e4], ⟨_, rfl, mRV_ok h p1 q1, mRV_ok h p2 q2, mRV_ok h p3 q3, mRV_ok h p4 q4, trivial⟩, fun b hb => h.fr.l0 b (by cases x1 <;> exact hb)⟩
  | [r1, r2, r3, r4, r5], g0, _, _ =>
    obtain ⟨v1, x1, m1, e1, ⟨a1, p1, q1⟩, k1, g1⟩ := resFs_cons h g0
    obtain ⟨v2, x2, m2, e2, ⟨a2, p2, q2⟩, k2, g2⟩ := resFs_cons h g1
    obtain ⟨v3, x3, m3, e3, ⟨a3, p3, q3⟩, k3, g3⟩ := resFs_cons h g2
    obtain ⟨v4, x4, m4, e4, ⟨a4, p4, q4⟩, k4, g4⟩ := resFs_cons h g3
    obtain ⟨v5, x5, m5, e5, ⟨a5, p5, q5⟩, k5, g5⟩ := resFs_cons h g4
    have z := resFs_nil g5
    subst z k5 k4 k3 k2 k1
    exact ⟨.tuple #[v1, v2, v3, v4, v5], by simp [e1, e2, e3, e4, e5], ⟨_, rfl, mRV_ok h p1 q1, mRV_ok h p2 q2, mRV_ok h p3 q3, mRV_ok h p4 q4, mRV_ok h p5 q5, trivial⟩, fun b hb => h.fr.l0 b (by cases x1 <;> exact hb)⟩
  | [], g0, _, _ =>
    have z := resFs_nil g0
    subst z
    exact ⟨.tuple #[], by simp, ⟨#[], rfl, trivial⟩, fun b hb => h.fr.l0 b hb⟩
  | _ :: _ :: _ :: _ :: _ :: _ :: _, _, hn, _ => simp at hn
theorem initT_look : ∀ (l : List AV) (i s : Nat), lookT (initT i l) s = if i ≤ s then (l[s - i]?).getD (.s .top) else .s .top
  | [], i, s => by simp [initT, lookT]
  | x :: l, i, s => by
    simp only [initT, lookT]
    by_cases hs : i = s
    · subst hs; simp
    · rw [if_neg (by simpa using hs), initT_look l (i + 1) s]
      by_cases h1 : i ≤ s
      · rw [if_pos h1, if_pos (by omega), show s - i = s - (i + 1) + 1 by omega]; simp
      · rw [if_neg h1, if_neg (by omega)]
/-- Facts that lean on no memory of the call's own. -/
def AV.freeA : AV → Bool
  | .s a => a.free
  | .agg l => l.all (·.free)
theorem free_on {s : SV} (h : s.free = true) (k : Nat) : s.on k = false := by cases s <;> first | rfl | cases h
theorem afree_on {s : AV} (h : s.freeA = true) (k : Nat) : s.on k = false := by
  cases s with
  | s s => exact free_on h k
  | agg l =>
    refine List.any_eq_false.2 fun s hs => ?_
    rw [free_on (List.all_eq_true.1 h s hs) k]
    simp
theorem hasA_len' {E : Env} : ∀ {vs : List Value} {l : List AV}, hasA E w vs l → vs.length = l.length
  | [], [], _ => rfl
  | [], _ :: _, h => h.elim
  | _ :: _, [], h => h.elim
  | _ :: _, _ :: _, h => by simp [hasA_len' h.2]
theorem hasA_get {E : Env} : ∀ {vs : List Value} {l : List AV} (s : Nat) (x : AV), hasA E w vs l → l[s]? = some x → ∃ u, vs[s]? = some u ∧ x.has E w u
  | [], [], s, x, _, hx => by simp at hx
  | [], _ :: _, _, _, h, _ => h.elim
  | _ :: _, [], _, _, h, _ => h.elim
  | v :: vs, a :: l, s, x, h, hx => by
    cases s with
    | zero => simp only [List.getElem?_cons_zero, Option.some.injEq] at hx; subst hx; exact ⟨v, rfl, h.1⟩
    | succ s => simpa using hasA_get s x h.2 (by simpa using hx)
theorem init_rel {args : Array Value} {avs : List AV} {n m : Nat} {b : List (Nat × Bx)} (hw : base.w = w) (hA : hasA E w args.toList avs) (hf : ∀ x ∈ avs, ∀ k, x.on k = true → k < m) (hn : avs.length ≤ n)
    (hbids : ∀ k bx, lookB b k = some bx → k < m ∧ bx.idsOK (fun j => Nat.blt j m) = true) (hmem : MemOK base.bn E w (lookB b))
    (hdist : ∀ k k' bx bx' g, lookB b k = some bx → lookB b k' = some bx' → blk (E.hd k) = some g → blk (E.hd k') = some g → k = k') (hfr : FrOK base (lookB b) m E) :
    Rel base n ⟨initT 0 avs, b, m⟩ E { tmps := args ++ Array.replicate (n - args.size) undef, defers := [] } w := by
  have hlen : args.size = avs.length := by simpa using hasA_len' hA
  have hfree : ∀ s k, (lookT (initT 0 avs) s).on k = true → k < m := by
    intro s k hk
    rw [initT_look] at hk
    simp only [Nat.zero_le, if_true, Nat.sub_zero] at hk
    cases hx : avs[s]? with
    | none => rw [hx] at hk; cases hk
    | some x => rw [hx] at hk; exact hf x (List.mem_of_getElem? hx) k hk
  refine ⟨?_, rfl, by rw [hw]; exact ⟨rfl, rfl, rfl, Nat.le_refl _, fun _ _ _ => rfl⟩, fun s => ?_, hfree, hbids, hmem, hdist, hfr⟩
  · simp; omega
  · show (lookT (initT 0 avs) s).has _ _ _
    rw [initT_look]
    simp only [Nat.zero_le, if_true, Nat.sub_zero]
    cases hx : avs[s]? with
    | none => trivial
    | some x =>
      obtain ⟨u, hu, hh⟩ := hasA_get s x hA hx
      have hs : s < args.size := by have := (List.getElem?_eq_some_iff.1 hx).1; omega
      have : (args ++ Array.replicate (n - args.size) undef).getD s undef = u := by
        rw [Array.getD_eq_getD_getElem?, Array.getElem?_append_left hs]
        have : args[s]? = some u := by simpa using hu
        rw [this]; rfl
      simp only [this]
      exact hh
theorem free_hd {E E' : Env} (hl : E'.lv = E.lv) {s : SV} {v : Value} (hf : s.free = true) (h : s.has E w v) : s.has E' w v := by
  cases s <;> first | (exact h) | (simp only [SV.has] at h ⊢; rw [hl]; exact h) | (cases hf)
theorem free_hdL {E E' : Env} (hl : E'.lv = E.lv) : ∀ {l : List SV} {vs : List Value}, l.all (·.free) = true → hasL E w vs l → hasL E' w vs l
  | [], [], _, _ => trivial
  | [], _ :: _, _, h => h.elim
  | _ :: _, [], _, h => h.elim
  | s :: l, v :: vs, hf, h => by
    simp only [List.all_cons, Bool.and_eq_true] at hf
    exact ⟨free_hd hl hf.1 h.1, free_hdL hl hf.2 h.2⟩
theorem free_hdA {E E' : Env} (hl : E'.lv = E.lv) : ∀ {l : List AV} {vs : List Value}, l.all (·.freeA) = true → hasA E w vs l → hasA E' w vs l
  | [], [], _, _ => trivial
  | [], _ :: _, _, h => h.elim
  | _ :: _, [], _, h => h.elim
  | .s s :: l, v :: vs, hf, h => by
    simp only [List.all_cons, Bool.and_eq_true] at hf
    exact ⟨free_hd hl hf.1 h.1, free_hdA hl hf.2 h.2⟩
  | .agg m :: l, v :: vs, hf, h => by
    simp only [List.all_cons, Bool.and_eq_true] at hf
    obtain ⟨cs, h1, h2⟩ := h.1
    exact ⟨⟨cs, h1, free_hdL hl hf.1 h2⟩, free_hdA hl hf.2 h.2⟩
/-- A function does what the evaluation of its body says. -/
theorem fun_ok (hsig : SigOK sig) (hxs : XSigOK xs) {f : FuncId} {fn : Func} {c : Code} {args : Array Value} {avs : List AV} {va : Nat → List Vary} {ret : List RV} {L0 : Nat → Prop} (hm : Try.prog.follows .mixedOrders = true) (hf : Try.prog.funcs[f]? = some fn) (hb : fn.body = some c)
    (hL : LtI L0 w) (hA : hasA (EL L0) w args.toList avs) (hc : (avs.all (·.freeA) && Nat.ble avs.length fn.ntmps && Nat.ble fn.results.toList.length 5 && Nat.ble 0 fn.results.toList.length) = true)
    (h : ev sig xs fn.ntmps va c 0 (initS avs) (retK fn.results.toList ret)) : Calls Try.prog f args w fun e w' => ∃ v, e = .returned v ∧ retOK w.heap.size L0 w' v ret ∧ Bel w w' := by
  simp only [Bool.and_eq_true] at hc
  obtain ⟨⟨⟨c1, c2⟩, c3⟩, c4⟩ := hc
  have hR0 : Rel ⟨w, false, undef, L0, w.heap.size⟩ fn.ntmps (initS avs) (EL L0) { tmps := args ++ Array.replicate (fn.ntmps - args.size) undef, defers := [] } w :=
    init_rel (base := ⟨w, false, undef, L0, w.heap.size⟩) (n := fn.ntmps) (m := 1) (b := []) rfl hA (fun x hx k hk => by rw [afree_on (List.all_eq_true.1 c1 x hx) k] at hk; cases hk) (Nat.le_of_ble_eq_true c2) (fun k bx hk => by cases hk) ⟨hL, (fun k bx hk => by cases hk), (fun k bx b hk => by cases hk)⟩ (fun k k' bx bx' g hk => by cases hk)
      ⟨Nat.le_refl _, hL, (fun k bx b hk => by cases hk), fun _ h => h, (fun h => by cases h), Nat.one_pos⟩
  refine calls_of_wp hf hb (ev_ok hsig hxs hm c 0 _ _ _ _ _ _ hR0 h ?_)
  intro e σ' E' a' w' hR hk
  have fin : mRes σ' fn.results.toList ret → a'.defers = [] ∧ ∃ v, (results fn a'.tmps).run Try.prog w' = .ok v w' ∧ ∃ v', Ending.returned v = .returned v' ∧ retOK w.heap.size L0 w' v' ret ∧ Bel w w' := by
    intro hl
    obtain ⟨v, h1, h2, _⟩ := results_run hR hl (Nat.le_of_ble_eq_true c3) (Nat.zero_le _)
    have hb : w.grownBy w' none := hR.bel
    exact ⟨hR.defers, v, h1, v, rfl, h2, ⟨hb.os, hb.tape, hb.output, hb.size, fun k hk => hb.block k hk (by simp)⟩⟩
  cases e with
  | normal => exact fin hk
  | exit i => exact hk.elim
  | ret => exact fin hk
def retY (rs : List ResultVar) (kinds : List GK) (post : List GV → Prop) (ret : List GV → List RV) : XE → St → Prop
  | .exit _, _ => False
  | .normal, σ => exG kinds fun g => post g ∧ mRes σ rs (ret g)
  | .ret, σ => exG kinds fun g => post g ∧ mRes σ rs (ret g)
/-- .. of whose result only bounds are told. -/
theorem fun_okY (hsig : SigOK sig) (hxs : XSigOK xs) {f : FuncId} {fn : Func} {c : Code} {args : Array Value} {avs : List AV} {va : Nat → List Vary} {kinds : List GK} {post : List GV → Prop} {ret : List GV → List RV} {L0 : Nat → Prop} (hm : Try.prog.follows .mixedOrders = true) (hf : Try.prog.funcs[f]? = some fn) (hb : fn.body = some c)
    (hL : LtI L0 w) (hA : hasA (EL L0) w args.toList avs) (hc : (avs.all (·.freeA) && Nat.ble avs.length fn.ntmps && Nat.ble fn.results.toList.length 5 && Nat.ble 0 fn.results.toList.length) = true)
    (h : ev sig xs fn.ntmps va c 0 (initS avs) (retY fn.results.toList kinds post ret)) : Calls Try.prog f args w fun e w' => ∃ v g, e = .returned v ∧ g.map GV.kd = kinds ∧ post g ∧ retOK w.heap.size L0 w' v (ret g) ∧ Bel w w' := by
  simp only [Bool.and_eq_true] at hc
  obtain ⟨⟨⟨c1, c2⟩, c3⟩, c4⟩ := hc
  have hR0 : Rel ⟨w, false, undef, L0, w.heap.size⟩ fn.ntmps (initS avs) (EL L0) { tmps := args ++ Array.replicate (fn.ntmps - args.size) undef, defers := [] } w :=
    init_rel (base := ⟨w, false, undef, L0, w.heap.size⟩) (n := fn.ntmps) (m := 1) (b := []) rfl hA (fun x hx k hk => by rw [afree_on (List.all_eq_true.1 c1 x hx) k] at hk; cases hk) (Nat.le_of_ble_eq_true c2) (fun k bx hk => by cases hk) ⟨hL, (fun k bx hk => by cases hk), (fun k bx b hk => by cases hk)⟩ (fun k k' bx bx' g hk => by cases hk)
      ⟨Nat.le_refl _, hL, (fun k bx b hk => by cases hk), fun _ h => h, (fun h => by cases h), Nat.one_pos⟩
  refine calls_of_wp hf hb (ev_ok hsig hxs hm c 0 _ _ _ _ _ _ hR0 h ?_)
  intro e σ' E' a' w' hR hk
  have fin : (exG kinds fun g => post g ∧ mRes σ' fn.results.toList (ret g)) → a'.defers = [] ∧ ∃ v, (results fn a'.tmps).run Try.prog w' = .ok v w' ∧ ∃ v' g, Ending.returned v = .returned v' ∧ g.map GV.kd = kinds ∧ post g ∧ retOK w.heap.size L0 w' v' (ret g) ∧ Bel w w' := by
    intro hx
    obtain ⟨g, k1, k2, k3⟩ := exG_at hx
    obtain ⟨v, h1, h2, _⟩ := results_run hR k3 (Nat.le_of_ble_eq_true c3) (Nat.zero_le _)
    have hb : w.grownBy w' none := hR.bel
    exact ⟨hR.defers, v, h1, v, g, rfl, k1, k2, h2, ⟨hb.os, hb.tape, hb.output, hb.size, fun k hk => hb.block k hk (by simp)⟩⟩
  cases e with
  | normal => exact fin hk
  | exit i => exact hk.elim
  | ret => exact fin hk
/-- .. and one that writes its first argument. -/
theorem fun_okX (hsig : SigOK sig) (hxs : XSigOK xs) {f : FuncId} {fn : Func} {c : Code} {v0 : Value} {args : List Value} {bx : Bx} {avs : List AV} {va : Nat → List Vary} {kinds : List GK} {post : List GV → Prop} {ret : List GV → List RV} {out : List GV → Bx} {L0 : Nat → Prop} (hm : Try.prog.follows .mixedOrders = true) (hf : Try.prog.funcs[f]? = some fn) (hb : fn.body = some c)
    (hL : LtI L0 w) (hv0 : ∀ b, blk v0 = some b → L0 b) (hbx : bx.ok 0 (EL L0) w v0) (hbf : bxFree bx = true) (hA : hasA (EL L0) w args avs) (hc : (avs.all (·.freeA) && Nat.ble (avs.length + 1) fn.ntmps && Nat.ble fn.results.toList.length 5 && Nat.ble 0 fn.results.toList.length) = true)
    (h : ev sig xs fn.ntmps va c 0 (initX bx avs) (retX fn.results.toList kinds post ret out)) :
    Calls Try.prog f (v0 :: args).toArray w fun e w' => ∃ v g, e = .returned v ∧ g.map GV.kd = kinds ∧ post g ∧ retOK w.heap.size L0 w' v (ret g) ∧ (out g).ok 0 (EL (retL L0 v (ret g))) w' v0 ∧ bxFree (out g) = true ∧ w.grownBy w' (blk v0) := by
  simp only [Bool.and_eq_true] at hc
  obtain ⟨⟨⟨c1, c2⟩, c3⟩, c4⟩ := hc
  generalize hE : (⟨fun k => if k = 0 then v0 else undef, L0, none⟩ : Env) = E0 at *
  have hlv : E0.lv = L0 := by rw [← hE]
  have hhd : E0.hd 0 = v0 := by rw [← hE]; rfl
  have hbE : bx.ok 0 E0 w v0 := by
    cases bx with
    | box l => obtain ⟨g, cs, e, h1, h2, h3, h4⟩ := hbx; exact ⟨g, cs, e, h1, h2, h3, free_hdL (by rw [hlv]; rfl) hbf h4⟩
    | row e c => obtain ⟨xs', h1, h2⟩ := hbx; exact ⟨xs', h1, by rw [hlv]; exact h2⟩
    | mp l => exact hbx
  have hlook : ∀ k b, lookB [(0, bx)] k = some b → k = 0 ∧ b = bx := by
    intro k b hk
    simp only [lookB] at hk
    split at hk
    · rename_i he; injection hk with hk; exact ⟨(beq_iff_eq.1 he).symm, hk.symm⟩
    · cases hk
  have hfirst : SV.has E0 w v0 (firstSV bx) := by
    cases bx with
    | box l =>
      obtain ⟨g, cs, e, h1, _⟩ := hbx
      show v0 = ptrIn (E0.hd 0) 0
      rw [hhd, h1]; rfl
    | row e c => show v0 = E0.hd 0; rw [hhd]
    | mp l => show v0 = E0.hd 0; rw [hhd]
  have hR0 : Rel ⟨w, true, v0, L0, 0⟩ fn.ntmps (initX bx avs) E0 { tmps := (v0 :: args).toArray ++ Array.replicate (fn.ntmps - (v0 :: args).toArray.size) undef, defers := [] } w := by
    refine init_rel (base := ⟨w, true, v0, L0, 0⟩) (n := fn.ntmps) (m := 1) (b := [(0, bx)]) rfl (avs := .s (firstSV bx) :: avs) ⟨hfirst, free_hdA (by rw [hlv]; rfl) c1 hA⟩ (fun x hx k hk => ?_) (Nat.le_of_ble_eq_true c2) (fun k b hk => ?_) ⟨by rw [hlv]; exact hL, fun k b hk => ?_, fun k b g hk hg => ?_⟩ (fun k k' b b' g hk hk' => ?_)
      ⟨Nat.zero_le _, hL, fun k b g hk hg => .inr ⟨(hlook k b hk).1, rfl⟩, fun b hb => by rw [hlv]; exact hb, fun _ => ⟨⟨bx, rfl⟩, hhd⟩, Nat.one_pos⟩
    · rcases List.mem_cons.1 hx with rfl | hx
      · cases bx <;> (have : 0 = k := by simpa [AV.on, SV.on, firstSV] using hk) <;> omega
      · rw [afree_on (List.all_eq_true.1 c1 x hx) k] at hk; cases hk
    · obtain ⟨rfl, rfl⟩ := hlook k b hk
      exact ⟨Nat.one_pos, bx_free_ids hbf _⟩
    · obtain ⟨rfl, rfl⟩ := hlook k b hk
      rw [hhd]; exact hbE
    · obtain ⟨rfl, rfl⟩ := hlook k b hk
      rw [hhd] at hg
      rw [hlv]; exact hv0 g hg
    · intro _ _
      rw [(hlook k b hk).1, (hlook k' b' hk').1]
  refine calls_of_wp hf hb (ev_ok hsig hxs hm c 0 _ _ _ _ _ _ hR0 h ?_)
  intro e σ' E' a' w' hR hk
  have fin : (exG kinds fun g => post g ∧ mRes σ' fn.results.toList (ret g) ∧ mBX σ' (lookB σ'.b 0) (out g)) → a'.defers = [] ∧ ∃ v, (results fn a'.tmps).run Try.prog w' = .ok v w' ∧ ∃ v' g, Ending.returned v = .returned v' ∧ g.map GV.kd = kinds ∧ post g ∧ retOK w.heap.size L0 w' v' (ret g) ∧ (out g).ok 0 (EL (retL L0 v' (ret g))) w' v0 ∧ bxFree (out g) = true ∧ w.grownBy w' (blk v0) := by
    intro hx
    obtain ⟨g, k1, k2, k3, k4⟩ := exG_at hx
    obtain ⟨v, h1, h2, h3⟩ := results_run hR k3 (Nat.le_of_ble_eq_true c3) (Nat.zero_le _)
    have hhd' : E'.hd 0 = v0 := (hR.fr.xid rfl).2
    refine ⟨hR.defers, v, h1, v, g, rfl, k1, k2, h2, ?_, ?_, hR.bel⟩
    · cases hob : lookB σ'.b 0 with
      | none => rw [hob] at k4; exact k4.elim
      | some ob =>
        have hok := hR.mem.ok 0 _ hob
        rw [hhd'] at hok
        rw [hob] at k4
        generalize out g = og at *
        cases ob <;> cases og <;> first | exact k4.elim | skip
        · obtain ⟨f1, f2, f3⟩ := k4
          obtain ⟨g', cs, e', q1, q2, q3, q4⟩ := hok
          exact ⟨g', cs, e', q1, q2, q3, free_monos h3 f1 f3 q4⟩
        · obtain ⟨f1, rfl⟩ := k4
          obtain rfl := beq_iff_eq.1 f1
          obtain ⟨xs', q1, q2⟩ := hok
          exact ⟨xs', q1, q2.less h3⟩
    · cases hob : lookB σ'.b 0 with
      | none => rw [hob] at k4; exact k4.elim
      | some ob =>
        rw [hob] at k4
        generalize out g = og at *
        cases ob <;> cases og <;> first | exact k4.elim | exact k4.2.1 | rfl
  cases e with
  | normal => exact fin hk
  | exit i => exact hk.elim
  | ret => exact fin hk
end
end Go.Proofs.Ytdpokkegkedlfaa
