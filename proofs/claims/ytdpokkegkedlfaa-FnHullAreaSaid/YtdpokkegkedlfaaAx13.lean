/- All operations that write, in one; what is left of a region behind its first part. -/
import Derived.Test.YtdpokkegkedlfaaAx12
import Derived.Lib.SliceRun
import Derived.DeepKeys3
import Derived.ChangeMaps5
import Derived.MapKept
namespace Go.Proofs.Ytdpokkegkedlfaa
open Go.RowKit
set_option maxRecDepth 10000
theorem map_ty : Try.prog.underlying 83 = some (.map 29 29) := by kernel_rfl
theorem ck_run (b : Bool) (p : Pt) (w : World) : (Instr.checkKey b 10000 29 (pv p)).run Try.prog w = .ok () w := by kernel_rfl
theorem zv_run (w : World) : (zeroValue 29).run Try.prog w = .ok (pv (0, 0)) w := by kernel_rfl
theorem eq_run (p q : Pt) (w : World) : (Op.equal 29 (pv p) (pv q)).run Try.prog w = .ok (decide (p = q)) w := by
  obtain ⟨p1, p2⟩ := p
  obtain ⟨q1, q2⟩ := q
  have h : (binOp .eql 29 (.agg #[.int .i64 p1, .int .i64 p2]) (.agg #[.int .i64 q1, .int .i64 q2])).run Try.prog w = .ok (.bool (decide (p1 = q1) && decide (p2 = q2))) w := by
    simp [go_sem]
    by_cases h1 : p1 = q1 <;> by_cases h2 : p2 = q2 <;> simp [h1, h2]
  have h2 : (binOp .eql 29 (.agg #[.int .i64 p1, .int .i64 p2]) (.agg #[.int .i64 q1, .int .i64 q2])) = (do let b ← Op.equal 29 (.agg #[.int .i64 p1, .int .i64 p2]) (.agg #[.int .i64 q1, .int .i64 q2]); pure (Value.bool b)) := rfl
  rw [h2] at h
  unfold pv
  simp only [Sem.run_bind] at h
  cases e : (Op.equal 29 (.agg #[.int .i64 p1, .int .i64 p2]) (.agg #[.int .i64 q1, .int .i64 q2])).run Try.prog w with
  | ok b w' =>
    rw [e] at h
    simp [Result.andThen] at h
    obtain ⟨rfl, rfl⟩ := h
    simp [Prod.mk.injEq, Bool.decide_and]
  | _ => rw [e] at h; simp [Result.andThen] at h
theorem fa_run (p : Pt) (w : World) : ∀ (es : List MapEntry) (l : List Pt) (i : Nat), Ents es l → ∃ r, (Instr.findAsking 29 (pv p) es i).run Try.prog w = .ok r w ∧ match r with
    | some (_, v) => mhas l p.1 p.2 = true ∧ v = pv (mget l p.1 p.2)
    | none => mhas l p.1 p.2 = false ∧ mget l p.1 p.2 = (0, 0)
  | [], [], i, _ => ⟨none, by simp [Instr.findAsking], rfl, rfl⟩
  | e :: es, k :: v :: l, i, h => by
    obtain ⟨h1, h2, h3⟩ := h
    unfold Instr.findAsking
    simp only [Sem.run_bind, h1, eq_run, Result.andThen_ok]
    unfold mhas mget
    by_cases hk : p = k
    · refine ⟨some (i, e.val), by simp [hk], ?_⟩
      subst hk
      simp [h2]
    · obtain ⟨r, r1, r2⟩ := fa_run p w es l (i + 1) h3
      refine ⟨r, by simp [hk, r1], ?_⟩
      have hk2 : ¬ (p.1, p.2) = k := hk
      simpa [hk2] using r2
  | [], _ :: _, _, h => h.elim
  | _ :: _, [], _, h => h.elim
  | _ :: _, [_], _, h => h.elim
theorem fk_run (p : Pt) (w : World) {es : List MapEntry} {l : List Pt} (h : Ents es l) : ∃ r, (Instr.findKey 29 (pv p) es).run Try.prog w = .ok r w ∧ match r with
    | some (_, v) => mhas l p.1 p.2 = true ∧ v = pv (mget l p.1 p.2)
    | none => mhas l p.1 p.2 = false ∧ mget l p.1 p.2 = (0, 0) := by
  obtain ⟨d, hd, hs⟩ : ∃ d, Try.prog.underlying 29 = some d ∧ ∀ a b, Instr.sameNow d a b = none := by
    have hs : (match Try.prog.underlying 29 with | some (.struct _) => true | _ => false) = true := by kernel_rfl
    cases hu : Try.prog.underlying 29 with
    | none => rw [hu] at hs; cases hs
    | some d =>
      rw [hu] at hs
      cases d <;> first | (cases hs; done) | exact ⟨_, rfl, fun a b => by cases a <;> cases b <;> rfl⟩
  unfold Instr.findKey
  simp only [Sem.run_bind, run_underlying hd, Result.andThen_ok]
  match es, l, h with
  | [], [], _ => exact ⟨none, by simp [Instr.findNow], rfl, rfl⟩
  | e :: es, k :: v :: l, h =>
    have : Instr.findNow d (pv p) (e :: es) 0 = none := by unfold Instr.findNow; rw [hs]
    rw [this]
    exact fa_run p w (e :: es) (k :: v :: l) 0 h
theorem lk_run (p : Pt) {w : World} {g : Nat} {es : Array MapEntry} {clk : Nat} {l : List Pt} (hg : w.heap[g]? = some (.map es clk)) (h : Ents es.toList l) (ok : Bool) :
    (Instr.lookup 83 (.map (some g)) (pv p) ok).run Try.prog w = .ok (if ok then .tuple #[pv (mget l p.1 p.2), .bool (mhas l p.1 p.2)] else pv (mget l p.1 p.2)) w := by
  obtain ⟨r, r1, r2⟩ := fk_run p w h
  unfold Instr.lookup
  simp only [Sem.run_bind, run_underlying map_ty, Result.andThen_ok, MapKept.run_getObj_map hg, Sem.run_pure, ck_run, r1]
  cases r with
  | some q =>
    obtain ⟨i, v⟩ := q
    obtain ⟨e1, rfl⟩ := r2
    simp only [e1]
    cases ok <;> simp
  | none =>
    obtain ⟨e1, e2⟩ := r2
    simp only [e1, e2, Sem.run_bind, zv_run, Sem.run_pure, Result.andThen_ok]
    first | done | (cases ok <;> rfl)
theorem mu_run (p q : Pt) {w : World} {g : Nat} {es : Array MapEntry} {clk : Nat} {l : List Pt} (hg : w.heap[g]? = some (.map es clk)) (h : Ents es.toList l) (hn : mhas l p.1 p.2 = false) :
    (Instr.mapUpdate 83 (.map (some g)) (pv p) (pv q)).run Try.prog w = .ok () (ChangeMaps.setBlock w g (.map (es.push ⟨pv p, pv q, clk⟩) (clk + 1))) := by
  obtain ⟨r, r1, r2⟩ := fk_run p w h
  unfold Instr.mapUpdate
  simp only [Sem.run_bind, run_underlying map_ty, Result.andThen_ok, MapKept.run_getObj_map hg, Sem.run_pure, ck_run, r1]
  cases r with
  | some q' =>
    obtain ⟨i, v⟩ := q'
    rw [hn] at r2; cases r2.1
  | none => simp only [MapKept.run_setObj_map _ hg]; try rfl
def SV.frz (k : Nat) (c : Cont) : SV → SV
  | .row j => if j == k then .view c else .row j
  | .rptr j sz i o => if j == k then .top else .rptr j sz i o
  | s => s
def AV.frz (k : Nat) (c : Cont) : AV → AV
  | .s a => .s (a.frz k c)
  | .agg l => .agg (l.map (·.frz k c))
def Bx.frz (k : Nat) (c : Cont) : Bx → Bx
  | .box l => .box (l.map (·.frz k c))
  | b => b
def frzT (k : Nat) (c : Cont) : List (Nat × AV) → List (Nat × AV)
  | [] => []
  | (s, a) :: l => (s, a.frz k c) :: frzT k c l
def frzB (k : Nat) (c : Cont) : List (Nat × Bx) → List (Nat × Bx)
  | [] => []
  | (s, a) :: l => if s == k then frzB k c l else (s, a.frz k c) :: frzB k c l
def St.frz (σ : St) (k : Nat) (c : Cont) : St := ⟨frzT k c σ.t, frzB k c σ.b, σ.n⟩
def Env.frz (E : Env) (k : Nat) : Env := ⟨E.hd, fun b => E.lv b ∧ blk (E.hd k) ≠ some b, E.rr⟩
theorem lookT_frz (k : Nat) (c : Cont) : ∀ (l : List (Nat × AV)) (s : Nat), lookT (frzT k c l) s = (lookT l s).frz k c
  | [], s => rfl
  | (j, a) :: l, s => by
    simp only [frzT, lookT]
    split
    · rfl
    · exact lookT_frz k c l s
theorem lookB_frz {k : Nat} {c : Cont} {s : Nat} {b : Bx} : ∀ {l : List (Nat × Bx)}, lookB (frzB k c l) s = some b → s ≠ k ∧ ∃ b', lookB l s = some b' ∧ b = b'.frz k c
  | [], h => by cases h
  | (j, a) :: l, h => by
    simp only [frzB] at h
    split at h
    · rename_i hj
      obtain rfl := beq_iff_eq.1 hj
      obtain ⟨h1, b', h2, h3⟩ := lookB_frz h
      refine ⟨h1, b', ?_, h3⟩
      simp only [lookB]
      rw [if_neg (by simpa using Ne.symm h1)]
      exact h2
    · rename_i hj
      simp only [lookB] at h ⊢
      split at h
      · rename_i hs
        injection h with h
        obtain rfl := beq_iff_eq.1 hs
        rw [if_pos (by simp)]
        exact ⟨by simpa using hj, a, rfl, h.symm⟩
      · rename_i hs
        rw [if_neg hs]
        exact lookB_frz h
theorem lookB_frz_ne {k : Nat} {c : Cont} {s : Nat} {b : Bx} (hs : s ≠ k) : ∀ {l : List (Nat × Bx)}, lookB l s = some b → lookB (frzB k c l) s = some (b.frz k c)
  | [], h => by cases h
  | (i, x) :: l, h => by
    simp only [lookB] at h
    simp only [frzB]
    split at h
    · rename_i hi
      injection h with h; subst h
      obtain rfl := beq_iff_eq.1 hi
      rw [if_neg (by simpa using hs)]
      simp [lookB]
    · rename_i hi
      split
      · exact lookB_frz_ne hs h
      · simp only [lookB]
        rw [if_neg hi]
        exact lookB_frz_ne hs h
section
variable {sig : FuncId → List AV → Option Sg} {σ : St} {base : Base} {N : Nat} {E : Env} {a : Act} {w : World} {Q : Exit → Act → World → Prop} {K : Act → World → Prop} {p : Prop} {σ' : St}
theorem frz_has {v : Value} {s : SV} {k : Nat} {c : Cont} (hk : Reads (E.frz k).lv w (E.hd k) c) (h : s.has E w v) : (s.frz k c).has (E.frz k) w v := by
  have hev : Evo E (E.frz k) w w := ⟨Nat.le_refl _, fun _ _ _ => rfl, fun _ _ h => h.1, fun _ h => h⟩
  cases s with
  | row j =>
    simp only [SV.frz]
    split
    · rename_i hj
      obtain rfl := beq_iff_eq.1 hj
      rw [show v = E.hd j from h]
      exact hk
    · exact h
  | rptr j sz i o =>
    simp only [SV.frz]
    split
    · trivial
    · exact h
  | _ => exact SV.has_evo hev (fun _ _ => rfl) h
theorem hasL_frz {k : Nat} {c : Cont} (hk : Reads (E.frz k).lv w (E.hd k) c) : ∀ {vs : List Value} {l : List SV}, hasL E w vs l → hasL (E.frz k) w vs (l.map (·.frz k c))
  | [], [], _ => trivial
  | _ :: _, _ :: _, h => ⟨frz_has hk h.1, hasL_frz hk h.2⟩
  | [], _ :: _, h => h.elim
  | _ :: _, [], h => h.elim
theorem frz_on {s : SV} {k j : Nat} {c : Cont} (h : (s.frz k c).on j = true) : s.on j = true := by
  cases s with
  | row i => simp only [SV.frz] at h; split at h <;> first | (cases h; done) | exact h
  | rptr i sz q o => simp only [SV.frz] at h; split at h <;> first | (cases h; done) | exact h
  | _ => exact h
theorem afrz_on {s : AV} {k j : Nat} {c : Cont} (h : (s.frz k c).on j = true) : s.on j = true := by
  cases s with
  | s s => exact frz_on h
  | agg l =>
    obtain ⟨s, hs, hj⟩ := List.any_eq_true.1 h
    obtain ⟨s', hs', rfl⟩ := List.mem_map.1 hs
    exact List.any_eq_true.2 ⟨s', hs', frz_on hj⟩
/-- Memory of the call's own that is written no more is read as any other. -/
theorem Rel.frz {k : Nat} {e : TypeId} {c : Cont} (h : Rel base N σ E a w) (hk0 : 0 < k) (hb : lookB σ.b k = some (.row e c)) : Rel base N (σ.frz k c) (E.frz k) a w := by
  have hev : Evo E (E.frz k) w w := ⟨Nat.le_refl _, fun _ _ _ => rfl, fun _ _ h => h.1, fun _ h => h⟩
  have hk : Reads (E.frz k).lv w (E.hd k) c := by
    obtain ⟨xs, h1, h2⟩ := h.mem.ok k _ hb
    exact ⟨xs, Owned.flat h1 (fun b hb' hl => hl.2 hb'), h2.evo hev⟩
  refine ⟨h.size, h.defers, h.bel, fun s => ?_, fun s j hj => ?_, fun j b hj => ?_, ⟨⟨fun b hb => h.mem.lt.lt' b hb.1, h.mem.lt.inv⟩, fun j b hj => ?_, fun j b g hj hg => ?_⟩, fun j j' b b' g h1 h2 hg hg' => ?_,
    ⟨h.fr.big, h.fr.l0lt, fun j b g hj hg => ?_, fun b hL => ⟨h.fr.l0 b hL, fun e => ?_⟩, fun hx => ?_, h.fr.pos⟩⟩
  · show (lookT (frzT k c σ.t) s).has _ _ _
    rw [lookT_frz]
    have := h.slots s
    cases hs : lookT σ.t s with
    | s s' => rw [hs] at this; exact frz_has hk this
    | agg l => rw [hs] at this; obtain ⟨cs, e1, e2⟩ := this; exact ⟨cs, e1, hasL_frz hk e2⟩
  · have hj' : (lookT (frzT k c σ.t) s).on j = true := hj
    rw [lookT_frz] at hj'
    exact h.sids s j (afrz_on hj')
  · obtain ⟨_, b', h1, rfl⟩ := lookB_frz hj
    obtain ⟨h2, h3⟩ := h.bids j b' h1
    refine ⟨h2, ?_⟩
    cases b' with
    | row e c => rfl
    | mp l => rfl
    | box l =>
      refine List.all_eq_true.2 fun s hs => ?_
      obtain ⟨s', hs', rfl⟩ := List.mem_map.1 hs
      have h4 := List.all_eq_true.1 h3 s' hs'
      cases s' with
      | row i => simp only [SV.frz]; split <;> first | rfl | exact h4
      | rptr i sz q o => simp only [SV.frz]; split <;> first | rfl | exact h4
      | _ => exact h4
  · obtain ⟨_, b', h1, rfl⟩ := lookB_frz hj
    have := h.mem.ok j b' h1
    cases b' with
    | row e c => exact Owned.evo hev (fun _ _ => rfl) this
    | mp l => exact this
    | box l => obtain ⟨g, cs, e, e1, e2, e3, e4⟩ := this; exact ⟨g, cs, e, e1, e2, e3, hasL_frz hk e4⟩
  · obtain ⟨hne, b', h1, rfl⟩ := lookB_frz hj
    exact ⟨h.mem.lv j b' g h1 hg, fun hk' => hne (h.dist j k b' _ g h1 hb hg hk')⟩
  · obtain ⟨_, c1, h1', _⟩ := lookB_frz h1
    obtain ⟨_, c2, h2', _⟩ := lookB_frz h2
    exact h.dist j j' c1 c2 g h1' h2' hg hg'
  · obtain ⟨_, b', h1, _⟩ := lookB_frz hj
    exact h.fr.own j b' g h1 hg
  · have h1 := h.fr.l0lt b hL
    rcases h.fr.own k _ b hb e with h2 | ⟨h2, _⟩ <;> omega
  · obtain ⟨⟨b0, h1⟩, h2⟩ := h.fr.xid hx
    refine ⟨?_, h2⟩
    show ∃ b, lookB (frzB k c σ.b) 0 = some b
    rw [lookB_frz_ne (by omega) h1]
    exact ⟨_, rfl⟩
end
def firstRow (σ : St) : List Operand → Option (Nat × Cont)
  | [] => none
  | x :: l => match gS σ x with
    | .v (.s (.row k)) => match lookB σ.b k with
      | some (.row _ c) => if Nat.blt 0 k then some (k, c) else firstRow σ l
      | _ => firstRow σ l
    | _ => firstRow σ l
def frzOf (σ : St) : Op → Option (Nat × Cont)
  | .buildSlice t _ ps => match tyOf t with
    | some (.sl _ c) => if c.nest then firstRow σ (ps.toList.map (·.2)) else none
    | _ => none
  | .store _ q x => match gS σ q with
    | .v (.s (.rptr j _ _ _)) => match lookB σ.b j with
      | some (.row _ c) => if c.nest then firstRow σ [x] else none
      | _ => none
    | _ => none
  | .slice _ x (some _) none none => firstRow σ [x]
  | .call ⟨.value (.func _), args, _⟩ => match args.toList with
    | x :: l => match gS σ x with
      | .v (.s (.ptr _ 0)) => firstRow σ l
      | _ => none
    | [] => none
  | _ => none
def frz1 (σ : St) (op : Op) : St := match frzOf σ op with
  | some (k, c) => σ.frz k c
  | none => σ
def mGen (sig : FuncId → List AV → Option Sg) (σ : St) (d : Nat) (ty : TypeId) (op : Op) : Option (Prop × St) :=
  match aOp sig (lookB σ.b) (gS σ) ty op with
  | some (p, bx, pt) => if bx.idsOK (fun j => Nat.blt j σ.n) then some (p, ⟨(d, .s (if pt then .ptr σ.n 0 else .row σ.n)) :: σ.t, (σ.n, bx) :: σ.b, σ.n + 1⟩) else none
  | none => match qOp sig (lookB σ.b) (gS σ) op with
    | some (p, .v av) => if av.idsOK (fun j => Nat.blt j σ.n) then some (p, σ.put d av) else none
    | _ => none
def mOp1 (sig : FuncId → List AV → Option Sg) (σ : St) (d : Option Nat) (ty : TypeId) : Op → Option (Prop × St)
  | .store t q x => match d with
    | none => mStore σ t (gS σ q) (gS σ x)
    | some _ => none
  | .call ⟨.builtin .append, args, ats⟩ => match d, args.toList, ats.toList with
    | some d, [x, y], [t, t'] => if t == t' then mAppend σ d t (gS σ x) (gS σ y) else none
    | _, _, _ => none
  | .slice t x none (some y) none => match d with
    | some d => match mCut σ d t (gS σ x) (gS σ y) with
      | some r => some r
      | none => mGen sig σ d ty (.slice t x none (some y) none)
    | none => none
  | op => match d with
    | some d => mGen sig σ d ty op
    | none => none
def okDst (N : Nat) : Option Nat → Bool
  | some d => Nat.blt d N
  | none => true
def mOp (sig : FuncId → List AV → Option Sg) (N : Nat) (σ : St) (o : Oper) : Option (Prop × St) :=
  match o.guard with
  | none => if okDst N o.dst then mOp1 sig (frz1 (frz1 σ o.op) o.op) o.dst o.type o.op else none
  | some _ => none
/-- What a callee does that writes its first argument. -/
structure SgX where
  need : Prop
  kinds : List GK
  post : List GV → Prop
  ret : List GV → List RV
  out : List GV → Bx
def bxFree : Bx → Bool
  | .box l => l.all (·.free)
  | .row _ _ => true
  | .mp _ => false
/-- .. and, where new memory comes back, that as well. -/
def retL (L0 : Nat → Prop) (v : Value) : List RV → Nat → Prop
  | [.nrow _ _] => fun b => L0 b ∨ blk v = some b
  | _ => L0
/-- What a callee does of which the result is only bounded. -/
structure SgY where
  need : Prop
  kinds : List GK
  post : List GV → Prop
  ret : List GV → List RV
structure XS where
  x : FuncId → Bx → List AV → Option SgX
  y : FuncId → List AV → Option SgY
def XOK (xs : FuncId → Bx → List AV → Option SgX) : Prop :=
  ∀ f bx avs sg, xs f bx avs = some sg → sg.need → ∀ (L0 : Nat → Prop) (v0 : Value) (args : List Value) (w : World), LtI L0 w → (∀ b, blk v0 = some b → L0 b) → bx.ok 0 (EL L0) w v0 → hasA (EL L0) w args avs →
    (callFunc f (v0 :: args).toArray).run Try.prog w = .ok (.enter f (v0 :: args).toArray) w ∧
    Calls Try.prog f (v0 :: args).toArray w fun e w' => ∃ v g, e = .returned v ∧ g.map GV.kd = sg.kinds ∧ sg.post g ∧ retOK w.heap.size L0 w' v (sg.ret g) ∧ (sg.out g).ok 0 (EL (retL L0 v (sg.ret g))) w' v0 ∧ bxFree (sg.out g) = true ∧ w.grownBy w' (blk v0)
def YOK (ys : FuncId → List AV → Option SgY) : Prop :=
  ∀ f avs sg, ys f avs = some sg → sg.need → ∀ (L0 : Nat → Prop) (args : Array Value) (w : World), LtI L0 w → hasA (EL L0) w args.toList avs →
    (callFunc f args).run Try.prog w = .ok (.enter f args) w ∧
    Calls Try.prog f args w fun e w' => ∃ v g, e = .returned v ∧ g.map GV.kd = sg.kinds ∧ sg.post g ∧ retOK w.heap.size L0 w' v (sg.ret g) ∧ Bel w w'
def XSigOK (xs : XS) : Prop := XOK xs.x ∧ YOK xs.y
def xArg (xs : XS) (σ : St) (f : FuncId) (l : List Operand) (j : Nat) : Option (Nat × SgX) :=
  match lookB σ.b j, cvAs (lookB σ.b) (gS σ) l with
  | some bx, some avs => if frAs (gS σ) l && bxFree bx then (match xs.x f bx avs with
    | some sg => some (j, sg)
    | none => none) else none
  | _, _ => none
def xOp (xs : XS) (σ : St) : Op → Option (Nat × SgX)
  | .call ⟨.value (.func f), args, _⟩ => match args.toList with
    | x :: l => match gS σ x with
      | .v (.s (.ptr j 0)) => (match lookB σ.b j with
        | some (.box _) => xArg xs σ f l j
        | _ => none)
      | .v (.s (.row j)) => (match lookB σ.b j with
        | some (.row _ _) => xArg xs σ f l j
        | _ => none)
      | _ => none
    | [] => none
  | _ => none
def xRes (σ : St) (d j : Nat) (bx : Bx) : List RV → Option St
  | [.nrow e c] => some ⟨(d, .s (.row σ.n)) :: σ.t, (σ.n, .row e c) :: (j, bx) :: σ.b, σ.n + 1⟩
  | [rv] => match rvA true rv with
    | some av => some ⟨(d, av) :: σ.t, (j, bx) :: σ.b, σ.n⟩
    | none => none
  | [] => some ⟨(d, .s .top) :: σ.t, (j, bx) :: σ.b, σ.n⟩
  | _ => none
def memN (n : Nat) : List Nat → Bool
  | [] => false
  | m :: l => n == m || memN n l
def yOp (xs : XS) (σ : St) : Op → Option SgY
  | .call ⟨.value (.func f), args, _⟩ => match cvAs (lookB σ.b) (gS σ) args.toList with
    | some avs => if frAs (gS σ) args.toList then xs.y f avs else none
    | none => none
  | _ => none
def yRes (σ : St) (d : Nat) : List RV → Option (St × List Nat × List AV)
  | [.nrow e c] => some (⟨(d, .s (.row σ.n)) :: σ.t, (σ.n, .row e c) :: σ.b, σ.n + 1⟩, [], [])
  | [rv] => match rvA true rv with
    | some av => some (σ.put d av, [], [])
    | none => none
  | l => match rvAs true l with
    | some avs => some (σ.put d (.s .top), [d], avs)
    | none => none
/-- A tuple that has just come back is taken apart. -/
def tupOp (o : Oper) (tp : List Nat) (tl : List AV) : Option (Nat × Option AV) :=
  match o.guard, o.dst, o.op with
  | none, some d, .move (.tmp x) => if memN x tp then some (d, none) else none
  | none, some d, .extract (.tmp x) k => if memN x tp && !memN d tp then (match tl[k]? with
    | some av => some (d, some av)
    | none => none) else none
  | _, _, _ => none
def mgx (l : List Pt) (a b : Int) : Int := (mget l a b).1
def mgy (l : List Pt) (a b : Int) : Int := (mget l a b).2
def mpRow (σ : St) (m : Operand) : Option (Nat × List Pt) := match gS σ m with
  | .v (.s (.row j)) => match lookB σ.b j with
    | some (.mp l) => some (j, l)
    | _ => none
  | _ => none
def pairOf : FV → Option Pt
  | .v (.agg [.int a, .int b]) => some (a, b)
  | _ => none
def isMapT (t : TypeId) : Bool := t == 83
def mpPut (σ : St) (t : TypeId) (m k x : Operand) : Option (Prop × St × List Nat × List AV) := match mpRow σ m, pairOf (gS σ k), pairOf (gS σ x) with
  | some (j, l), some p, some q => if isMapT t then some (NIs (mhas l p.1 p.2) false, σ.setB j (.mp (mput l p.1 p.2 q.1 q.2)), [], []) else none
  | _, _, _ => none
/-- Operations on a map of the call's own. -/
def mpOp (σ : St) : Option Nat → Op → Option (Prop × St × List Nat × List AV)
  | some d, .makeMap t none => if isMapT t then some (True, ⟨(d, .s (.row σ.n)) :: σ.t, (σ.n, .mp []) :: σ.b, σ.n + 1⟩, [], []) else none
  | some d, .lookup t m k ok => match mpRow σ m, pairOf (gS σ k) with
    | some (_, l), some p => if isMapT t then (match ok with
      | true => some (True, σ.put d (.s .top), [d], [.agg [.int (mgx l p.1 p.2), .int (mgy l p.1 p.2)], .s (.bool (mhas l p.1 p.2))])
      | false => some (True, σ.put d (.agg [.int (mgx l p.1 p.2), .int (mgy l p.1 p.2)]), [], [])) else none
    | _, _ => none
  | none, .mapUpdate t m k x => mpPut σ t m k x
  | none, .insert t m k x => mpPut σ t m k x
  | _, _ => none
/-- One operation, not guarded, of those that go one after the other. -/
def evOp1 (sig : FuncId → List AV → Option Sg) (xs : XS) (N : Nat) (o : Oper) (tp : List Nat) (tl : List AV) (σ : St) (K : St → List Nat → List AV → Prop) : Prop :=
  match tupOp o tp tl with
  | some (d, none) => Nat.blt d N = true ∧ K (σ.put d (.s .top)) (d :: tp) tl
  | some (d, some av) => Nat.blt d N = true ∧ K (σ.put d av) tp tl
  | none => match mpOp σ o.dst o.op with
   | some (p, σ', tp', tl') => okDst N o.dst = true ∧ p ∧ K σ' tp' tl'
   | none => match o.dst, o.op with
    | some d, .pick c x y => (match gS σ c, gS σ x, gS σ y with
      | .v (.s (.bool b)), .v ax, .v ay => Nat.blt d N = true ∧ (b = true → K (σ.put d ax) [] []) ∧ (b = false → K (σ.put d ay) [] [])
      | _, _, _ => False)
    | some d, .binOp .eql t x (.const (.slice none 0 0)) _ => (match gS σ x, tyOf t with
      | .v (.s (.view c)), some (.sl _ _) => Nat.blt d N = true ∧ ∀ b : Bool, (b = true → c.ilen = 0) → K (σ.put d (.s (.bool b))) [] []
      | _, _ => False)
    | _, _ => match o.dst, xOp xs (frz1 (frz1 σ o.op) o.op) o.op with
      | some d, some (j, sg) => Nat.blt d N = true ∧ sg.need ∧ allG sg.kinds fun g => sg.post g → match xRes (frz1 (frz1 σ o.op) o.op) d j (sg.out g) (sg.ret g) with
        | some σ' => K σ' [] []
        | none => False
      | _, _ => match o.dst, yOp xs σ o.op with
        | some d, some sg => Nat.blt d N = true ∧ sg.need ∧ allG sg.kinds fun g => sg.post g → match yRes σ d (sg.ret g) with
          | some (σ', tp', tl') => K σ' tp' tl'
          | none => False
        | _, _ => match mOp sig N σ o with
          | some (p, σ') => p ∧ K σ' [] []
          | none => False
/-- The slot in which an operation of the region leaves its value. -/
def gdst (ops : List Oper) (j : Nat) : Option Nat := match ops[j]? with
  | some o => o.dst
  | none => none
def putTop (σ : St) : Option Nat → St
  | some d => σ.put d (.s .top)
  | none => σ
def evTail (sig : FuncId → List AV → Option Sg) (xs : XS) (N : Nat) (ops : List Oper) : List Oper → List Nat → List AV → St → (St → Prop) → Prop
  | [], _, _, σ, k => k σ
  | o :: l, tp, tl, σ, k => match o.guard with
    | none => evOp1 sig xs N o tp tl σ fun σ' tp' tl' => evTail sig xs N ops l tp' tl' σ' k
    | some (j, b) => match gdst ops j with
      | some s => (match lookT σ.t s with
        | .s (.bool c) => (okDst N o.dst) = true ∧ (c = b → evOp1 sig xs N ⟨o.dst, o.op, o.type, o.pos, o.after, none⟩ [] [] (σ.put s (.s (.bool b))) fun σ' tp' tl' => evTail sig xs N ops l tp' tl' σ' k) ∧ (c = !b → evTail sig xs N ops l [] [] (putTop (σ.put s (.s (.bool (!b)))) o.dst) k)
        | _ => False)
      | none => False
section
variable {sig : FuncId → List AV → Option Sg} {σ : St} {base : Base} {N : Nat} {E : Env} {a : Act} {w : World} {Q : Exit → Act → World → Prop} {K : Act → World → Prop} {p : Prop} {σ' : St}
theorem firstRow_ok : ∀ {l : List Operand} {k : Nat} {c : Cont}, firstRow σ l = some (k, c) → 0 < k ∧ ∃ e, lookB σ.b k = some (.row e c)
  | [], k, c, h => by cases h
  | x :: l, k, c, h => by
    unfold firstRow at h
    split at h
    · split at h
      · rename_i e c' hb
        split at h
        · rename_i h0
          injection h with h; injection h with h1 h2; subst h1 h2
          exact ⟨blt_iff.1 h0, e, hb⟩
        · exact firstRow_ok h
      · exact firstRow_ok h
    · exact firstRow_ok h
theorem frz1_ok (op : Op) (h : Rel base N σ E a w) : ∃ E', Rel base N (frz1 σ op) E' a w := by
  unfold frz1
  split
  · rename_i k c hk
    have : 0 < k ∧ ∃ e, lookB σ.b k = some (.row e c) := by
      unfold frzOf at hk
      split at hk
      · split at hk
        · split at hk
          · exact firstRow_ok hk
          · cases hk
        · cases hk
      · split at hk
        · split at hk
          · split at hk
            · exact firstRow_ok hk
            · cases hk
          · cases hk
        · cases hk
      · exact firstRow_ok hk
      · split at hk
        · split at hk
          · exact firstRow_ok hk
          · cases hk
        · cases hk
      · cases hk
    obtain ⟨h0, e, he⟩ := this
    exact ⟨_, h.frz h0 he⟩
  · exact ⟨E, h⟩
theorem mGen_ok (hsig : SigOK sig) {d : Nat} {o : Oper} (hg : o.guard = none) (hod : o.dst = some d) (hd : d < N) (h : Rel base N σ E a w) (hm : mGen sig σ d o.type o.op = some (p, σ')) (hp : p) (hK : ∀ E' a' w', Rel base N σ' E' a' w' → K a' w') : o.wp Try.prog a w K Q := by
  unfold mGen at hm
  split at hm
  · rename_i p' bx pt hop
    split at hm
    · rename_i hid
      injection hm with hm; injection hm with h1 h2; subst h1 h2
      refine aOp_ok (id := σ.n) hsig o hg h.lo h.mem hop hp (fun x => gS_has h x) (fun x => ?_) ?_
      · cases hon : (gS σ x).on σ.n with
        | false => rfl
        | true => have := gS_on h x _ hon; omega
      · intro v w' hgr hbx hf hfr
        rw [hod]
        have hR := h.new hgr hbx hfr hid
        refine hK _ _ _ (hR.put hd hf fun k hk => ?_)
        cases pt <;> (have : σ.n = k := by simpa [AV.on, SV.on] using hk) <;> (show k < σ.n + 1; omega)
    · cases hm
  · split at hm
    · rename_i p' av hop
      split at hm
      · rename_i hid
        injection hm with hm; injection hm with h1 h2; subst h1 h2
        refine qOp_ok hsig o hg h.mem hop hp (fun x => gS_has h x) fun v w' hv hgr => ?_
        rw [hod]
        refine hK _ _ _ ((h.grow hgr).put hd hv fun k hk => blt_iff.1 (AV.idsOK_on hid hk))
      · cases hm
    · cases hm
theorem mOp_ok (hsig : SigOK sig) {o : Oper} (h : Rel base N σ E a w) (hm : mOp sig N σ o = some (p, σ')) (hp : p) (hK : ∀ E' a' w', Rel base N σ' E' a' w' → K a' w') : o.guard = none ∧ o.wp Try.prog a w K Q := by
  unfold mOp at hm
  split at hm
  · rename_i hg
    split at hm
    · rename_i hdst
      refine ⟨hg, ?_⟩
      obtain ⟨E1, h1⟩ := frz1_ok o.op h
      obtain ⟨E2, h2⟩ := frz1_ok o.op h1
      generalize frz1 (frz1 σ o.op) o.op = σ2 at *
      obtain ⟨dst, op, ty, pos, af, gd⟩ := o
      simp only at *
      subst hg
      unfold mOp1 at hm
      split at hm
      · split at hm
        · exact mStore_ok ty pos af h2 rfl hm hp hK
        · cases hm
      · rename_i args ats
        split at hm
        · rename_i d x y t t' ha hat
          split at hm
          · rename_i htt
            obtain rfl := beq_iff_eq.1 htt
            obtain ⟨al⟩ := args
            obtain ⟨tl⟩ := ats
            simp only at ha hat
            subst ha hat
            exact mAppend_ok ty pos af h2 (blt_iff.1 hdst) hm hp hK rfl
          · cases hm
        · cases hm
      · split at hm
        · rename_i d
          split at hm
          · rename_i r hr
            injection hm with hm; subst hm
            exact mCut_ok ty pos af h2 (blt_iff.1 hdst) hr hp hK
          · exact mGen_ok hsig rfl rfl (blt_iff.1 hdst) h2 hm hp hK
        · cases hm
      · split at hm
        · rename_i d
          exact mGen_ok hsig rfl rfl (blt_iff.1 hdst) h2 hm hp hK
        · cases hm
    · cases hm
  · cases hm
theorem rv_free {av : AV} {rv : RV} (h : rvA true rv = some av) (k : Nat) : av.on k = false := by
  have hs : ∀ s : SV, okF true s = true → s.on k = false := by intro s hs; cases s <;> first | rfl | (simp [okF, SV.pl, SV.free] at hs)
  cases rv with
  | s s =>
    simp only [rvA] at h
    split at h
    · rename_i hf; injection h with h; subst h; exact hs s hf
    · cases h
  | agg l =>
    simp only [rvA] at h
    split at h
    · rename_i hf
      injection h with h; subst h
      refine List.any_eq_false.2 fun s hm => ?_
      rw [hs s (List.all_eq_true.1 hf s hm)]; simp
    · cases h
  | nrow e c => cases h
  | nbox l => cases h
theorem bx_free_ids {bx : Bx} (h : bxFree bx = true) (p : Nat → Bool) : bx.idsOK p = true := by
  cases bx with
  | mp l => cases h
  | row e c => rfl
  | box l =>
    refine List.all_eq_true.2 fun s hs => ?_
    have := List.all_eq_true.1 h s hs
    cases s <;> first | rfl | cases this
theorem free_EL {v : Value} {s : SV} (hf : s.free = true) (h : s.has E w v) : s.has (EL E.lv) w v := by
  cases s <;> first | exact h | cases hf
theorem EL_free {v : Value} {s : SV} (hf : s.free = true) (h : s.has (EL E.lv) w v) : s.has E w v := by
  cases s <;> first | exact h | cases hf
theorem free_ELs : ∀ {l : List SV} {vs : List Value}, l.all (·.free) = true → hasL E w vs l → hasL (EL E.lv) w vs l
  | [], [], _, _ => trivial
  | [], _ :: _, _, h => h.elim
  | _ :: _, [], _, h => h.elim
  | s :: l, v :: vs, hf, h => by
    simp only [List.all_cons, Bool.and_eq_true] at hf
    exact ⟨free_EL hf.1 h.1, free_ELs hf.2 h.2⟩
theorem EL_frees : ∀ {l : List SV} {vs : List Value}, l.all (·.free) = true → hasL (EL E.lv) w vs l → hasL E w vs l
  | [], [], _, _ => trivial
  | [], _ :: _, _, h => h.elim
  | _ :: _, [], _, h => h.elim
  | s :: l, v :: vs, hf, h => by
    simp only [List.all_cons, Bool.and_eq_true] at hf
    exact ⟨EL_free hf.1 h.1, EL_frees hf.2 h.2⟩
theorem bx_EL {n m : Nat} {bx : Bx} {v : Value} (hf : bxFree bx = true) (h : bx.ok n E w v) (hm : m ≤ n) : bx.ok m (EL E.lv) w v := by
  cases bx with
  | mp l => cases hf
  | box l => obtain ⟨g, cs, e, h1, h2, h3, h4⟩ := h; exact ⟨g, cs, e, h1, Nat.le_trans hm h2, h3, free_ELs hf h4⟩
  | row e c =>
    obtain ⟨xs, h1, h2⟩ := h
    refine ⟨xs, ⟨h1.1, ?_⟩, h2⟩
    rcases h1.2 with h3 | ⟨g, cap, cur, q1, q2, q3⟩
    · exact .inl h3
    · exact .inr ⟨g, cap, cur, q1, Nat.le_trans hm q2, q3⟩
theorem EL_bx {n : Nat} {bx : Bx} {v : Value} (hf : bxFree bx = true) (h : bx.ok 0 (EL E.lv) w v) (hn : ∀ b, blk v = some b → n ≤ b) : bx.ok n E w v := by
  cases bx with
  | mp l => cases hf
  | box l => obtain ⟨g, cs, e, h1, h2, h3, h4⟩ := h; subst h1; exact ⟨g, cs, e, rfl, hn g rfl, h3, EL_frees hf h4⟩
  | row e c =>
    obtain ⟨xs, h1, h2⟩ := h
    refine ⟨xs, ⟨h1.1, ?_⟩, h2⟩
    rcases h1.2 with h3 | ⟨g, cap, cur, q1, q2, q3⟩
    · exact .inl h3
    · exact .inr ⟨g, cap, cur, q1, hn g (by rw [q1]; rfl), q3⟩
theorem Rel.both {j : Nat} {bx0 bx bm : Bx} {v : Value} {w' : World} (h : Rel base N σ E a w) (hj : lookB σ.b j = some bx0) (hg : w.grownBy w' (blk (E.hd j))) (hfr : ∀ b, blk v = some b → w.heap.size ≤ b)
    (hbx : bx.ok base.bn (E.new σ.n v) w' (E.hd j)) (hid : bx.idsOK (fun k => Nat.blt k σ.n) = true) (hbm : bm.ok base.bn (E.new σ.n v) w' v) (hidm : bm.idsOK (fun k => Nat.blt k σ.n) = true) :
    Rel base N ⟨σ.t, (σ.n, bm) :: (j, bx) :: σ.b, σ.n + 1⟩ (E.new σ.n v) a w' := by
  have hjn : j ≠ σ.n := by have := (h.bids j bx0 hj).1; omega
  have hne : ∀ k b, lookB σ.b k = some b → k ≠ σ.n := fun k b hk => by have := (h.bids k b hk).1; omega
  have hcase : ∀ k b, lookB ((σ.n, bm) :: (j, bx) :: σ.b) k = some b → (k = σ.n ∧ b = bm) ∨ (k ≠ σ.n ∧ k = j ∧ b = bx) ∨ (k ≠ σ.n ∧ k ≠ j ∧ lookB σ.b k = some b) := by
    intro k b hk
    simp only [lookB] at hk
    split at hk
    · rename_i he; injection hk with hk; exact .inl ⟨(beq_iff_eq.1 he).symm, hk.symm⟩
    · rename_i he
      split at hk
      · rename_i he2
        injection hk with hk
        exact .inr (.inl ⟨fun e => he (by simp [e]), (beq_iff_eq.1 he2).symm, hk.symm⟩)
      · rename_i he2
        exact .inr (.inr ⟨fun e => he (by simp [e]), fun e => he2 (by simp [e]), hk⟩)
  have hlvj : ∀ b, blk (E.hd j) = some b → E.lv b := fun b hb => h.mem.lv j bx0 b hj hb
  have hev : Evo E (E.new σ.n v) w w' := ⟨hg.size, fun b hb hn => hg.block b hb (fun e => hn (hlvj b e.symm)), fun b hb hl => by
    rcases hl with hl | hl
    · exact hl
    · have := hfr b hl; omega, fun _ h => h⟩
  have mono : ∀ {b : Bx}, b.idsOK (fun k => Nat.blt k σ.n) = true → b.idsOK (fun k => Nat.blt k (σ.n + 1)) = true := fun hb => Bx.idsOK_mono hb fun k hk => blt_iff.2 (by have := blt_iff.1 hk; omega)
  have hold : ∀ k b g, k ≠ j → lookB σ.b k = some b → blk (E.hd k) = some g → blk (E.hd j) ≠ some g := fun k b g hkj hk hkg e => hkj (h.dist k j b bx0 g hk hj hkg e)
  refine ⟨h.size, h.defers, gtrans h.bel hg (fun i hi e => by
    rcases h.fr.X hj e with h1 | h1
    · omega
    · exact h1), fun s => AV.has_evo hev (fun k hk => new_hd (by have := h.sids s k hk; omega)) (h.slots s), fun s k hk => by have := h.sids s k hk; show k < σ.n + 1; omega, fun k b hk => ?_, ⟨⟨fun b hb => ?_, (h.mem.lt.grow hg (fun b e => hlvj b e)).inv⟩, fun k b hk => ?_, fun k b g' hk hg' => ?_⟩, fun k k' b b' g h1 h2 hk hk' => ?_,
    ⟨h.fr.big, h.fr.l0lt, fun k b g hk hb => ?_, fun b hb => .inl (h.fr.l0 b hb), fun hx => ?_, Nat.succ_pos _⟩⟩
  · rcases hcase k b hk with ⟨rfl, rfl⟩ | ⟨_, rfl, rfl⟩ | ⟨_, _, hk'⟩
    · exact ⟨by show σ.n < σ.n + 1; omega, mono hidm⟩
    · exact ⟨by have := (h.bids k bx0 hj).1; show k < σ.n + 1; omega, mono hid⟩
    · obtain ⟨h1, h2⟩ := h.bids k b hk'
      exact ⟨by show k < σ.n + 1; omega, mono h2⟩
  · rcases hb with hb | hb
    · exact (h.mem.lt.grow hg (fun b e => hlvj b e)).lt' b hb
    · exact ⟨Nat.le_trans h.mem.lt.inv.ng (hfr b hb), (Bx.ok_lt hbm hb).2⟩
  · rcases hcase k b hk with ⟨rfl, rfl⟩ | ⟨hn, rfl, rfl⟩ | ⟨hn, hkj, hk'⟩
    · rw [new_hd_self]; exact hbm
    · rw [new_hd hn]; exact hbx
    · rw [new_hd hn]
      refine Bx.ok_evo hev (fun g' hg' => hg.block g' (Bx.ok_lt (h.mem.ok k b hk') hg').2 (fun e => hold k b g' hkj hk' hg' e.symm)) (fun l hl s hs k' hkk => new_hd ?_) (h.mem.ok k b hk')
      have := blt_iff.1 (Bx.idsOK_on (h.bids k b hk').2 l hl s hs k' hkk)
      omega
  · rcases hcase k b hk with ⟨rfl, rfl⟩ | ⟨hn, rfl, rfl⟩ | ⟨hn, hkj, hk'⟩
    · rw [new_hd_self] at hg'; exact .inr hg'
    · rw [new_hd hn] at hg'; exact .inl (hlvj g' hg')
    · rw [new_hd hn] at hg'; exact .inl (h.mem.lv k b g' hk' hg')
  · have hin : ∀ k b, k ≠ σ.n → lookB ((σ.n, bm) :: (j, bx) :: σ.b) k = some b → ∃ b0, lookB σ.b k = some b0 := by
      intro k b hn hk
      rcases hcase k b hk with ⟨rfl, _⟩ | ⟨_, rfl, _⟩ | ⟨_, _, hk'⟩
      · exact absurd rfl hn
      · exact ⟨bx0, hj⟩
      · exact ⟨b, hk'⟩
    by_cases hn1 : k = σ.n <;> by_cases hn2 : k' = σ.n
    · rw [hn1, hn2]
    · exfalso
      obtain ⟨b0, hb0⟩ := hin k' b' hn2 h2
      rw [hn1, new_hd_self] at hk
      rw [new_hd hn2] at hk'
      have := hfr g hk
      have := (Bx.ok_lt (h.mem.ok k' b0 hb0) hk').2
      omega
    · exfalso
      obtain ⟨b0, hb0⟩ := hin k b hn1 h1
      rw [hn2, new_hd_self] at hk'
      rw [new_hd hn1] at hk
      have := hfr g hk'
      have := (Bx.ok_lt (h.mem.ok k b0 hb0) hk).2
      omega
    · obtain ⟨b0, hb0⟩ := hin k b hn1 h1
      obtain ⟨b1, hb1⟩ := hin k' b' hn2 h2
      rw [new_hd hn1] at hk
      rw [new_hd hn2] at hk'
      exact h.dist k k' b0 b1 g hb0 hb1 hk hk'
  · rcases hcase k b hk with ⟨rfl, rfl⟩ | ⟨hn, rfl, rfl⟩ | ⟨hn, hkj, hk'⟩
    · rw [new_hd_self] at hb
      exact .inl (Nat.le_trans h.bel.size (hfr g hb))
    · rw [new_hd hn] at hb
      exact h.fr.own k bx0 g hj hb
    · rw [new_hd hn] at hb
      exact h.fr.own k b g hk' hb
  · obtain ⟨⟨b0, h1⟩, h2⟩ := h.fr.xid hx
    have hn0 : 0 ≠ σ.n := by have := h.fr.pos; omega
    refine ⟨?_, by rw [new_hd hn0]; exact h2⟩
    simp only [lookB]
    rw [if_neg (by simpa using hn0.symm)]
    split
    · exact ⟨_, rfl⟩
    · exact ⟨b0, h1⟩
/-- A callee that writes memory handed to it. -/
theorem xOp_ok {xs : XS} (hxs : XOK xs.x) {o : Oper} {d j : Nat} {sg : SgX} (hg : o.guard = none) (hod : o.dst = some d) (hd : d < N) (h : Rel base N σ E a w) (hx : xOp xs σ o.op = some (j, sg)) (hp : sg.need)
    (hK : ∀ g, g.map GV.kd = sg.kinds → sg.post g → ∃ σ', xRes σ d j (sg.out g) (sg.ret g) = some σ' ∧ ∀ E' a' w', Rel base N σ' E' a' w' → K a' w') : o.wp Try.prog a w K Q := by
  obtain ⟨dst, op, ty, pos, af, gd⟩ := o
  simp only at hg hod hx
  subst hg hod
  unfold xOp at hx
  split at hx
  · rename_i f args ats
    split at hx
    · rename_i x l hl
      have key : ∀ (bx : Bx), lookB σ.b j = some bx → a.eval x = E.hd j → xArg xs σ f l j = some (j, sg) → Oper.wp Try.prog ⟨some d, .call ⟨.value (.func f), args, ats⟩, ty, pos, af, none⟩ a w K Q := by
        intro bx hb hv hxa
        unfold xArg at hxa
        rw [hb] at hxa
        split at hxa
        · rename_i bx' avs hb' hav
          injection hb' with hb'; subst hb'
          split at hxa
          · rename_i hfr
            rw [Bool.and_eq_true] at hfr
            split at hxa
            · rename_i sg' hsg
              injection hxa with hxa; injection hxa with _ hxa; subst hxa
              have hM := h.mem
              have hA0 := cvAs_ok (fr := true) hM (fun _ => hfr.1) (fun x _ => gS_has h x) hav
              have hLF : LF true E = E.lv := funext fun b => by simp [LF]
              rw [hLF] at hA0
              have hbx := h.mem.ok j bx hb
              obtain ⟨e1, e2⟩ := hxs f bx avs sg' hsg hp E.lv (E.hd j) (l.map a.eval) w h.mem.lt (fun b hb' => h.mem.lv j bx b hb hb') (bx_EL hfr.2 hbx (Nat.zero_le _)) hA0
              have harr : args.map a.eval = (E.hd j :: l.map a.eval).toArray := by
                apply Array.ext'
                simp [hl, hv]
              unfold Oper.wp
              rw [show execOp a.eval _ = callFunc f (#[] ++ args.map a.eval ++ #[]) from rfl]
              rw [Array.empty_append, Array.append_empty, harr, e1]
              show Calls Try.prog f _ w _
              refine e2.mono ?_
              rintro _ w' ⟨v, g, rfl, k1, k2, k3, k4, k5, k6⟩
              obtain ⟨σ', hσ', hK'⟩ := hK g k1 k2
              have hge : ∀ b, blk (E.hd j) = some b → base.bn ≤ b := fun b hb' => (Bx.ok_lt hbx hb').1
              have hR : (sg'.out g).ok 0 (EL E.lv) w' (E.hd j) → Rel base N (σ.setB j (sg'.out g)) E a w' := by
                intro k4
                cases hbk : blk (E.hd j) with
                | some b =>
                  refine h.write hb hbk (by rw [← hbk]; exact k6) (EL_bx k5 k4 hge) (bx_free_ids k5 _)
                | none =>
                  rw [hbk] at k6
                  have hR0 := h.grow k6
                  have hbx' : (sg'.out g).ok base.bn E w' (E.hd j) := EL_bx k5 k4 hge
                  refine ⟨hR0.size, hR0.defers, hR0.bel, hR0.slots, hR0.sids, fun k b hk => ?_, ⟨hR0.mem.lt, fun k b hk => ?_, fun k b g' hk hg' => ?_⟩, fun k k' b b' g' h1 h2 hg1 hg2 => ?_, ⟨hR0.fr.big, hR0.fr.l0lt, fun k b g' hk hg' => ?_, hR0.fr.l0, fun hx => ⟨setB_same (hR0.fr.xid hx).1, (hR0.fr.xid hx).2⟩, hR0.fr.pos⟩⟩
                  · rcases setB_look hk with ⟨rfl, rfl⟩ | ⟨_, hk'⟩
                    · exact ⟨(hR0.bids k bx hb).1, bx_free_ids k5 _⟩
                    · exact hR0.bids k b hk'
                  · rcases setB_look hk with ⟨rfl, rfl⟩ | ⟨_, hk'⟩
                    · exact hbx'
                    · exact hR0.mem.ok k b hk'
                  · rcases setB_look hk with ⟨rfl, rfl⟩ | ⟨_, hk'⟩
                    · exact hR0.mem.lv k bx g' hb hg'
                    · exact hR0.mem.lv k b g' hk' hg'
                  · rcases setB_look h1 with ⟨rfl, rfl⟩ | ⟨hn1, h1'⟩
                    · rw [hbk] at hg1; cases hg1
                    · rcases setB_look h2 with ⟨rfl, rfl⟩ | ⟨hn2, h2'⟩
                      · rw [hbk] at hg2; cases hg2
                      · exact hR0.dist k k' b b' g' h1' h2' hg1 hg2
                  · rcases setB_look hk with ⟨rfl, rfl⟩ | ⟨_, hk'⟩
                    · exact hR0.fr.own k bx g' hb hg'
                    · exact hR0.fr.own k b g' hk' hg'
              have hsz : w.heap.size ≤ w'.heap.size := k6.size
              generalize sg'.ret g = rl at *
              unfold xRes at hσ'
              split at hσ'
              · rename_i e c
                injection hσ' with hσ'; subst hσ'
                have hv' : Owned w.heap.size (fun b => E.lv b ∨ blk v = some b) w' v e c := k3
                have k4' : (sg'.out g).ok 0 (EL (E.new σ.n v).lv) w' (E.hd j) := k4
                have hR2 := h.both (v := v) (bm := .row e c) hb k6 (fun b hb' => (hv'.lt hb').1) (EL_bx k5 k4' hge) (bx_free_ids k5 _) (by
                  obtain ⟨xs', q1, q2⟩ := hv'
                  refine ⟨xs', ⟨q1.1, ?_⟩, q2.less (fun b hb' => hb')⟩
                  rcases q1.2 with h3 | ⟨g', cap, cur, r1, r2, r3⟩
                  · exact .inl h3
                  · exact .inr ⟨g', cap, cur, r1, Nat.le_trans h.lo r2, r3⟩) rfl
                refine hK' _ _ _ (hR2.put hd (av := .s (.row σ.n)) ?_ fun k hk => ?_)
                · show _ = _
                  rw [new_hd_self]
                · have : σ.n = k := by simpa [AV.on, SV.on] using hk
                  show k < σ.n + 1
                  omega
              · rename_i rv hne
                split at hσ'
                · rename_i av hav'
                  injection hσ' with hσ'; subst hσ'
                  have hv' : av.has E w' v := rvA_ok (fr := true) hav' (by rw [hLF]; exact k3)
                  have k4' : (sg'.out g).ok 0 (EL E.lv) w' (E.hd j) := by
                    cases rv <;> first | exact k4 | cases hav'
                  exact hK' _ _ _ ((hR k4').put hd hv' fun k hk => by rw [rv_free hav' k] at hk; cases hk)
                · cases hσ'
              · injection hσ' with hσ'; subst hσ'
                exact hK' _ _ _ ((hR k4).put hd (av := .s .top) trivial fun k hk => by cases hk)
              · cases hσ'
            · cases hxa
          · cases hxa
        · cases hxa
      split at hx
      · rename_i j' hgx
        have hv := gS_has h x
        rw [hgx] at hv
        split at hx
        · rename_i m hb
          have hj : j' = j := by
            unfold xArg at hx
            split at hx
            · split at hx
              · split at hx
                · injection hx with hx; injection hx with hx _
                · cases hx
              · cases hx
            · cases hx
          subst hj
          refine key _ hb ?_ hx
          obtain ⟨g, cs, e, q1, _⟩ := h.mem.ok j' _ hb
          have hv' : a.eval x = ptrIn (E.hd j') 0 := hv
          rw [hv', q1]; rfl
        · cases hx
      · rename_i j' hgx
        have hv := gS_has h x
        rw [hgx] at hv
        split at hx
        · rename_i e m hb
          have hj : j' = j := by
            unfold xArg at hx
            split at hx
            · split at hx
              · split at hx
                · injection hx with hx; injection hx with hx _
                · cases hx
              · cases hx
            · cases hx
          subst hj
          exact key _ hb hv hx
        · cases hx
      · cases hx
    · cases hx
  · cases hx
/-- Slots that hold a tuple, and what of it is known. -/
def TP (E : Env) (a : Act) (w : World) (tp : List Nat) (tl : List AV) : Prop :=
  (∀ x, memN x tp = true → ∃ cs : Array Value, a.tmps.getD x undef = .tuple cs ∧ hasA E w cs.toList tl) ∧ ∀ av ∈ tl, ∀ k, av.on k = false
theorem TP.nil : TP E a w [] [] := ⟨(fun x h => by cases h), (fun av h => by cases h)⟩
theorem rvAs_free : ∀ {l : List RV} {m : List AV}, rvAs true l = some m → ∀ av ∈ m, ∀ k, av.on k = false
  | [], m, h, av, hav, k => by simp only [rvAs] at h; injection h with h; subst h; cases hav
  | rv :: l, m, h, av, hav, k => by
    simp only [rvAs] at h
    split at h
    · rename_i b hb
      split at h
      · rename_i m' hm
        injection h with h; subst h
        rcases List.mem_cons.1 hav with rfl | hav
        · exact rv_free hb k
        · exact rvAs_free hm av hav k
      · cases h
    · cases h
/-- A callee of whose result only bounds are known. -/
theorem yOp_ok {xs : XS} (hys : YOK xs.y) {o : Oper} {d : Nat} {sg : SgY} (hg : o.guard = none) (hod : o.dst = some d) (hd : d < N) (h : Rel base N σ E a w) (hx : yOp xs σ o.op = some sg) (hp : sg.need)
    (hK : ∀ g, g.map GV.kd = sg.kinds → sg.post g → ∃ r, yRes σ d (sg.ret g) = some r ∧ ∀ E' a' w', Rel base N r.1 E' a' w' → TP E' a' w' r.2.1 r.2.2 → K a' w') : o.wp Try.prog a w K Q := by
  obtain ⟨dst, op, ty, pos, af, gd⟩ := o
  simp only at hg hod hx
  subst hg hod
  unfold yOp at hx
  split at hx
  · rename_i f args ats
    split at hx
    · rename_i avs hav
      split at hx
      · rename_i hfr
        have hA0 := cvAs_ok (fr := true) h.mem (fun _ => hfr) (fun x _ => gS_has h x) hav
        have hLF : LF true E = E.lv := funext fun b => by simp [LF]
        rw [hLF] at hA0
        obtain ⟨e1, e2⟩ := hys f avs sg hx hp E.lv (args.map a.eval) w h.mem.lt (by rw [Array.toList_map]; exact hA0)
        unfold Oper.wp
        rw [show execOp a.eval _ = callFunc f (#[] ++ args.map a.eval ++ #[]) from rfl]
        rw [Array.empty_append, Array.append_empty, e1]
        show Calls Try.prog f _ w _
        refine e2.mono ?_
        rintro e w' ⟨v, g, rfl, k1, k2, k3, k6⟩
        obtain ⟨r, hr, hK'⟩ := hK g k1 k2
        have hgr := bel_grown k6
        have hR := h.grow hgr
        generalize sg.ret g = rl at *
        unfold yRes at hr
        split at hr
        · rename_i e c
          injection hr with hr; subst hr
          have hv' : Owned w.heap.size (fun b => E.lv b ∨ blk v = some b) w' v e c := k3
          have hR2 := h.new (v := v) (bx := .row e c) hgr (by
            obtain ⟨xs', q1, q2⟩ := hv'
            refine ⟨xs', ⟨q1.1, ?_⟩, q2.less (fun b hb' => hb')⟩
            rcases q1.2 with h3 | ⟨g', cap, cur, r1, r2, r3⟩
            · exact .inl h3
            · exact .inr ⟨g', cap, cur, r1, Nat.le_trans h.lo r2, r3⟩) (fun b hb => (hv'.lt hb).1) rfl
          refine hK' _ _ _ (hR2.put hd (av := .s (.row σ.n)) ?_ fun k hk => ?_) TP.nil
          · show _ = _
            rw [new_hd_self]
          · have : σ.n = k := by simpa [AV.on, SV.on] using hk
            show k < σ.n + 1
            omega
        · rename_i rv hne
          split at hr
          · rename_i av hav'
            injection hr with hr; subst hr
            have hv' : av.has E w' v := rvA_ok (fr := true) hav' (by rw [hLF]; exact k3)
            exact hK' _ _ _ (hR.put hd hv' fun k hk => by rw [rv_free hav' k] at hk; cases hk) TP.nil
          · cases hr
        · rename_i hne1 hne2
          split at hr
          · rename_i avs' hav'
            injection hr with hr; subst hr
            have hcs : ∃ cs : Array Value, v = .tuple cs ∧ hasR w.heap.size E.lv w' cs.toList rl := by
              unfold retOK at k3
              split at k3
              · exact absurd rfl (hne2 _)
              · exact k3
            obtain ⟨cs, rfl, hcs⟩ := hcs
            refine hK' E _ w' (hR.put hd (av := .s .top) trivial fun k hk => by cases hk) ⟨fun x hx => ⟨cs, ?_, rvAs_ok (fr := true) hav' (by rw [hLF]; exact hcs)⟩, rvAs_free hav'⟩
            have hxd : x = d := by simpa [memN] using hx
            subst hxd
            rw [put_get (by rw [h.size]; exact hd), if_pos rfl]
          · cases hr
      · cases hx
    · cases hx
  · cases hx
/-- A tuple's part. -/
theorem tupOp_ok {o : Oper} {d : Nat} {tp : List Nat} {tl : List AV} {x : Option AV} (h : Rel base N σ E a w) (hT : TP E a w tp tl) (ht : tupOp o tp tl = some (d, x)) (hd : d < N)
    (hK : ∀ a' w', (match x with
      | none => Rel base N (σ.put d (.s .top)) E a' w' ∧ TP E a' w' (d :: tp) tl
      | some av => Rel base N (σ.put d av) E a' w' ∧ TP E a' w' tp tl) → K a' w') : o.guard = none ∧ o.wp Try.prog a w K Q := by
  obtain ⟨dst, op, ty, pos, af, gd⟩ := o
  unfold tupOp at ht
  simp only at ht
  split at ht
  · rename_i d' y
    split at ht
    · rename_i hm
      injection ht with ht; injection ht with h1 h2; subst h1 h2
      refine ⟨rfl, ?_⟩
      obtain ⟨cs, c1, c2⟩ := hT.1 y hm
      refine wp_run (w' := w) (v := a.eval (.tmp y)) rfl (hK _ _ ⟨h.put hd (av := .s .top) trivial (fun k hk => by cases hk), fun z hz => ?_, hT.2⟩)
      rw [put_get (by rw [h.size]; exact hd)]
      by_cases hzd : z = d'
      · rw [if_pos hzd]; exact ⟨cs, c1, c2⟩
      · rw [if_neg hzd]
        refine hT.1 z ?_
        simpa [memN, hzd] using hz
    · cases ht
  · rename_i d' y k
    split at ht
    · rename_i hm
      simp only [Bool.and_eq_true] at hm
      split at ht
      · rename_i av hav
        injection ht with ht; injection ht with h1 h2; subst h1 h2
        refine ⟨rfl, ?_⟩
        obtain ⟨cs, c1, c2⟩ := hT.1 y hm.1
        refine qExt_ok (G := fun _ => .tup tl) (r := .v av) (p := True) (some d') ty pos af (.tmp y) k (by simp [qExt, hav]) ⟨cs, c1, c2⟩ (E := E) (w := w) (a := a) (K := K) (Q := Q) ?_
        intro v w' hv hgr
        have hR := h.grow hgr
        refine hK _ _ ⟨hR.put hd hv (fun j hj => by rw [hT.2 av (List.mem_of_getElem? hav) j] at hj; cases hj), fun z hz => ?_, hT.2⟩
        have hzd : z ≠ d' := by
          rintro rfl
          rw [hz] at hm
          cases hm.2
        rw [put_get (by rw [h.size]; exact hd), if_neg hzd]
        obtain ⟨cs', c1', c2'⟩ := hT.1 z hz
        exact ⟨cs', c1', hasA_evo (grown_evo hgr) (fun _ _ _ _ => rfl) c2'⟩
      · cases ht
    · cases ht
  · cases ht
theorem mpRow_ok {m : Operand} {j : Nat} {l : List Pt} (h : Rel base N σ E a w) (hm : mpRow σ m = some (j, l)) : ∃ g es clk, a.eval m = .map (some g) ∧ E.hd j = .map (some g) ∧ lookB σ.b j = some (.mp l) ∧ base.bn ≤ g ∧ w.heap[g]? = some (.map es clk) ∧ Ents es.toList l := by
  unfold mpRow at hm
  have hv := gS_has h m
  split at hm
  · rename_i j' hg
    rw [hg] at hv
    split at hm
    · rename_i l' hb
      injection hm with hm; injection hm with e1 e2; subst e1 e2
      have hv' : a.eval m = E.hd j' := hv
      obtain ⟨g, es, clk, e1, e2, e3, e4⟩ := h.mem.ok j' _ hb
      exact ⟨g, es, clk, by rw [hv', e1], e1, hb, e2, e3, e4⟩
    · cases hm
  · cases hm
theorem pairOf_ok {x : Operand} {p : Pt} (h : Rel base N σ E a w) (hp : pairOf (gS σ x) = some p) : a.eval x = pv p := by
  have hv := gS_has h x
  unfold pairOf at hp
  split at hp
  · rename_i c d hg
    rw [hg] at hv
    injection hp with hp; subst hp
    obtain ⟨cs, e1, e2⟩ := hv
    obtain ⟨cl⟩ := cs
    match cl, e2 with
    | [u, v], e2 =>
      have h1 : u = .int .i64 c := e2.1
      have h2 : v = .int .i64 d := e2.2.1
      rw [e1, h1, h2]; rfl
  · cases hp
theorem mpPut_ok {t : TypeId} {m k x : Operand} {p : Prop} {r : St × List Nat × List AV} (h : Rel base N σ E a w) (hm : mpPut σ t m k x = some (p, r)) (hp : p) :
    ∃ w', (Instr.mapUpdate t (a.eval m) (a.eval k) (a.eval x)).run Try.prog w = .ok () w' ∧ Rel base N r.1 E a w' ∧ r.2 = ([], []) := by
  unfold mpPut at hm
  split at hm
  · rename_i j l q1 q2 hr hk hx
    split at hm
    · rename_i ht
      obtain rfl := beq_iff_eq.1 ht
      injection hm with hm; injection hm with h1 h2; subst h1 h2
      obtain ⟨g, es, clk, e1, e2, e3, e4, e5, e6⟩ := mpRow_ok h hr
      rw [e1, pairOf_ok h hk, pairOf_ok h hx]
      have hp' : mhas l q1.1 q1.2 = false := by unfold NIs at hp; exact hp
      have hrun := mu_run q1 q2 e5 e6 hp'
      refine ⟨_, hrun, h.write (bx := .mp (mput l q1.1 q1.2 q2.1 q2.2)) e3 (by rw [e2]; rfl) ⟨rfl, rfl, rfl, by simp [ChangeMaps.setBlock], fun i _ hi => ChangeMaps.heap_setBlock_other e5 _ (fun e => hi (by rw [e]))⟩ ⟨g, _, _, e2, e4, ChangeMaps.heap_setBlock_same e5 _, ?_⟩ rfl, rfl⟩
      rw [Array.toList_push]
      exact e6.push clk
    · cases hm
  · cases hm
theorem mpOp_ok {o : Oper} {p : Prop} {σ' : St} {tp : List Nat} {tl : List AV} (hgd : o.guard = none) (hd : okDst N o.dst = true) (h : Rel base N σ E a w) (hm : mpOp σ o.dst o.op = some (p, σ', tp, tl)) (hp : p)
    (hK : ∀ E' a' w', Rel base N σ' E' a' w' → TP E' a' w' tp tl → K a' w') : o.wp Try.prog a w K Q := by
  obtain ⟨dst, op, ty, pos, af, gd⟩ := o
  simp only at hgd hd hm
  subst hgd
  unfold mpOp at hm
  split at hm
  · rename_i d t
    split at hm
    · injection hm with hm; injection hm with h1 h2; injection h2 with h2 h3; injection h3 with h3 h4; subst h1 h2 h3 h4
      have hn := h.new (v := .map (some w.heap.size)) (bx := .mp []) (w' := w.alloc (.map #[] 0)) (World.grownBy_alloc w _ none) ⟨w.heap.size, #[], 0, rfl, h.lo, (MapKept.heap_alloc w _).1, trivial⟩ (fun b hb => by simp only [blk, Option.some.injEq] at hb; omega) rfl
      refine wp_run (w' := w.alloc (.map #[] 0)) (v := .map (some w.heap.size)) rfl (hK _ _ _ (hn.put (blt_iff.1 hd) (av := .s (.row σ.n)) ?_ fun k hk => ?_) TP.nil)
      · show _ = _
        rw [new_hd_self]
      · have : σ.n = k := by simpa [AV.on, SV.on] using hk
        show k < σ.n + 1
        omega
    · cases hm
  · rename_i d t m k ok
    split at hm
    · rename_i j l q hr hk
      split at hm
      · rename_i ht
        obtain rfl := beq_iff_eq.1 ht
        obtain ⟨g, es, clk, e1, e2, e3, e4, e5, e6⟩ := mpRow_ok h hr
        have hrun := fun ok => lk_run q e5 e6 ok
        rw [← e1, ← pairOf_ok h hk] at hrun
        have hag : ∀ E', AV.has E' w (pv (mget l q.1 q.2)) (.agg [.int (mgx l q.1 q.2), .int (mgy l q.1 q.2)]) := fun E' => ⟨_, rfl, rfl, rfl, trivial⟩
        split at hm
        · injection hm with hm; injection hm with h1 h2; injection h2 with h2 h3; injection h3 with h3 h4; subst h1 h2 h3 h4
          refine wp_run (w' := w) (v := .tuple #[pv (mget l q.1 q.2), .bool (mhas l q.1 q.2)]) ?_ (hK E _ w (h.put (blt_iff.1 hd) (av := .s .top) trivial fun k hk => by cases hk) ⟨fun x hx => ⟨#[pv (mget l q.1 q.2), .bool (mhas l q.1 q.2)], ?_, hag E, rfl, trivial⟩, ?_⟩)
          · have := hrun true
            unfold execOp
            generalize a.eval = ρ at *
            simp [this]
          · have hxd : x = d := by simpa [memN] using hx
            subst hxd
            rw [put_get (by rw [h.size]; exact blt_iff.1 hd), if_pos rfl]
          · intro av hav k
            simp only [List.mem_cons, List.not_mem_nil, or_false] at hav
            rcases hav with rfl | rfl <;> rfl
        · injection hm with hm; injection hm with h1 h2; injection h2 with h2 h3; injection h3 with h3 h4; subst h1 h2 h3 h4
          refine wp_run (w' := w) (v := pv (mget l q.1 q.2)) ?_ (hK E _ w (h.put (blt_iff.1 hd) (hag E) fun k hk => by cases hk) TP.nil)
          have := hrun false
          unfold execOp
          generalize a.eval = ρ at *
          simp [this]
      · cases hm
    · cases hm
  · rename_i t m k x
    obtain ⟨w', h1, h2, h3⟩ := mpPut_ok h hm hp
    injection h3 with h3 h4
    simp only at h2 h3 h4
    subst h3 h4
    refine wp_skip_run (w' := w') ?_ (hK E a w' h2 TP.nil)
    unfold execOp
    generalize a.eval = ρ at *
    simp [h1]
  · rename_i t m k x
    obtain ⟨w', h1, h2, h3⟩ := mpPut_ok h hm hp
    injection h3 with h3 h4
    simp only at h2 h3 h4
    subst h3 h4
    refine wp_skip_run (w' := w') ?_ (hK E a w' h2 TP.nil)
    unfold execOp
    generalize a.eval = ρ at *
    simp [h1]
  · cases hm
theorem evOp1_ok {xs : XS} (hsig : SigOK sig) (hxs : XSigOK xs) {o : Oper} {tp : List Nat} {tl : List AV} {k : St → List Nat → List AV → Prop} (hgd : o.guard = none) (h : Rel base N σ E a w) (hT : TP E a w tp tl) (hk : evOp1 sig xs N o tp tl σ k)
    (hK : ∀ σ' tp' tl' E' a' w', Rel base N σ' E' a' w' → TP E' a' w' tp' tl' → k σ' tp' tl' → K a' w') : o.wp Try.prog a w K Q := by
  unfold evOp1 at hk
  split at hk
  · rename_i d ht
    obtain ⟨hd, hk⟩ := hk
    exact (tupOp_ok h hT ht (blt_iff.1 hd) (fun a' w' hh => hK _ _ _ _ _ _ hh.1 hh.2 hk)).2
  · rename_i d av ht
    obtain ⟨hd, hk⟩ := hk
    exact (tupOp_ok h hT ht (blt_iff.1 hd) (fun a' w' hh => hK _ _ _ _ _ _ hh.1 hh.2 hk)).2
  · split at hk
    · rename_i p σ' tp' tl' hm
      obtain ⟨hd, hp, hk⟩ := hk
      exact mpOp_ok hgd hd h hm hp fun E' a' w' h' hT' => hK _ _ _ _ _ _ h' hT' hk
    split at hk
    · rename_i d c x y hod hop
      split at hk
      · rename_i b ax ay hc hx hy
        obtain ⟨hd, h1, h2⟩ := hk
        have vc := gS_has h c; have vx := gS_has h x; have vy := gS_has h y
        rw [hc] at vc; rw [hx] at vx; rw [hy] at vy
        have vc' : a.eval c = .bool b := vc
        have ix : ∀ k, ax.on k = true → k < σ.n := fun k hk => gS_on h x k (by rw [hx]; exact hk)
        have iy : ∀ k, ay.on k = true → k < σ.n := fun k hk => gS_on h y k (by rw [hy]; exact hk)
        obtain ⟨dst, op, ty, pos, af, gd⟩ := o
        simp only at hod hop hgd
        subst hod hop hgd
        cases b with
        | true =>
          refine wp_run (w' := w) (v := a.eval x) ?_ (hK _ _ _ _ _ _ (h.put (blt_iff.1 hd) vx ix) TP.nil (h1 rfl))
          unfold execOp
          simp only [vc']
          generalize a.eval = ρ at *
          simp [asBool]
        | false =>
          refine wp_run (w' := w) (v := a.eval y) ?_ (hK _ _ _ _ _ _ (h.put (blt_iff.1 hd) vy iy) TP.nil (h2 rfl))
          unfold execOp
          simp only [vc']
          generalize a.eval = ρ at *
          simp [asBool]
      · exact hk.elim
    · rename_i d t x t' hod hop
      split at hk
      · rename_i c e c0 hx ht
        obtain ⟨hd, hk⟩ := hk
        have vx := gS_has h x
        rw [hx] at vx
        have vx' : Reads E.lv w (a.eval x) c := vx
        obtain ⟨xs', ⟨A, cap, e1, e2, e3, e4, e5⟩, _⟩ := vx'
        obtain ⟨hu, _⟩ := ty_sl ht
        obtain ⟨dst, op, ty, pos, af, gd⟩ := o
        simp only at hod hop hgd
        subst hod hop hgd
        refine wp_run (w' := w) (v := .bool A.isNone) ?_ (hK _ _ _ _ _ _ (h.put (blt_iff.1 hd) (av := .s (.bool A.isNone)) rfl (fun k hk => by cases hk)) TP.nil (hk A.isNone fun hA => ?_))
        · have := Lib.run_eql_slice_nil (P := Try.prog) w t e A c.len cap 0 0 hu
          have e0 : a.eval (.const (.slice none 0 0)) = .slice none 0 0 := rfl
          unfold execOp
          simp only [e1, e0]
          generalize a.eval = ρ at *
          simp [eqGuard, this, Result.andThen]
        · rw [c.ilen_eq]
          rcases Nat.eq_zero_or_pos c.len with h0 | h0
          · rw [h0]; rfl
          · obtain ⟨b, off, hA', _⟩ := e5 h0
            rw [hA'] at hA; cases hA
      · exact hk.elim
    · split at hk
      · rename_i d j sg hod hx
        obtain ⟨hd, hn, hall⟩ := hk
        obtain ⟨E1, h1⟩ := frz1_ok o.op h
        obtain ⟨E2, h2⟩ := frz1_ok o.op h1
        refine xOp_ok hxs.1 hgd hod (blt_iff.1 hd) h2 hx hn fun g hkd hpost => ?_
        have hc := allG_at hall g hkd hpost
        split at hc
        · rename_i σ' hσ'
          exact ⟨σ', hσ', fun E' a' w' h' => hK _ _ _ _ _ _ h' TP.nil hc⟩
        · exact hc.elim
      · split at hk
        · rename_i d sg hod hy
          obtain ⟨hd, hn, hall⟩ := hk
          refine yOp_ok hxs.2 hgd hod (blt_iff.1 hd) h hy hn fun g hkd hpost => ?_
          have hc := allG_at hall g hkd hpost
          split at hc
          · rename_i σ' tp' tl' hσ'
            exact ⟨_, hσ', fun E' a' w' h' hT' => hK _ _ _ _ _ _ h' hT' hc⟩
          · exact hc.elim
        · split at hk
          · rename_i p σ' hm
            exact (mOp_ok hsig h hm hk.1 (fun E' a' w' h' => hK _ _ _ _ _ _ h' TP.nil hk.2)).2
          · exact hk.elim
theorem Rel.know {s : Nat} {av : AV} (h : Rel base N σ E a w) (hv : av.has E w (a.tmps.getD s undef)) (hon : ∀ k, av.on k = true → k < σ.n) : Rel base N (σ.put s av) E a w := by
  refine ⟨h.size, h.defers, h.bel, fun s' => ?_, fun s' k hk => ?_, h.bids, h.mem, h.dist, h.fr⟩
  · show (lookT ((s, av) :: σ.t) s').has E w _
    simp only [lookT]
    split
    · rename_i hs; obtain rfl := beq_iff_eq.1 hs; exact hv
    · exact h.slots s'
  · have hk' : (lookT ((s, av) :: σ.t) s').on k = true := hk
    simp only [lookT] at hk'
    split at hk'
    · exact hon k hk'
    · exact h.sids s' k hk'
theorem putTop_ok {v : Value} {d : Option Nat} (h : Rel base N σ E a w) (hd : okDst N d = true) : Rel base N (putTop σ d) E (a.put d v) w := by
  cases d with
  | none => exact h.none
  | some d => exact h.put (blt_iff.1 hd) (av := .s .top) trivial (fun k hk => by cases hk)
/-- Whether a guarded operation is wanted. -/
theorem wanted_at {ops : List Oper} {o : Oper} {j s : Nat} {b c : Bool} (h : Rel base N σ E a w) (hg : o.guard = some (j, b)) (hd : gdst ops j = some s) (hc : lookT σ.t s = .s (.bool c)) : Region.wanted o (yielded ops.toArray a.tmps) = (c == b) := by
  have hs := h.slots s
  rw [hc] at hs
  have hs' : a.tmps.getD s undef = .bool c := hs
  unfold gdst at hd
  split at hd
  · rename_i oj hj
    have hv : a.tmps[s]? = some (.bool c) := by
      rw [Array.getD_eq_getD_getElem?] at hs'
      cases hx : a.tmps[s]? with
      | none => rw [hx] at hs'; cases hs'
      | some u => rw [hx] at hs'; simpa using hs'
    simp [Region.wanted, hg, yielded, hj, hd, hs', hv]
  · cases hd
theorem unguard {o : Oper} {gd : Option (Nat × Bool)} (h : (⟨o.dst, o.op, o.type, o.pos, o.after, none⟩ : Oper).wp Try.prog a w K Q) : o.wp Try.prog a w K Q := h
theorem evTail_ok {xs : XS} (hsig : SigOK sig) (hxs : XSigOK xs) {ops : List Oper} : ∀ (l : List Oper) (tp : List Nat) (tl : List AV) (σ : St) (E : Env) (a : Act) (w : World) (k : St → Prop), Rel base N σ E a w → TP E a w tp tl → evTail sig xs N ops l tp tl σ k → (∀ σ' E' a' w', Rel base N σ' E' a' w' → k σ' → Q .normal a' w') → wpList Try.prog ops.toArray Q l a w
  | [], tp, tl, σ, E, a, w, k, h, hT, hk, hQ => hQ σ E a w h hk
  | o :: l, tp, tl, σ, E, a, w, k, h, hT, hk, hQ => by
    unfold evTail at hk
    split at hk
    · rename_i hgd
      refine wpList_plain hgd fun K hK => ?_
      exact evOp1_ok hsig hxs hgd h hT hk fun σ' tp' tl' E' a' w' h' hT' hk' => hK _ _ (evTail_ok hsig hxs l tp' tl' σ' E' a' w' k h' hT' hk' hQ)
    · rename_i j b hgd
      split at hk
      · rename_i s hs
        split at hk
        · rename_i c hc
          obtain ⟨hd, h1, h2⟩ := hk
          have hw := wanted_at h hgd hs hc
          have hsl : a.tmps.getD s undef = .bool c := by have := h.slots s; rw [hc] at this; exact this
          refine wpList_step fun K hK => ?_
          rw [hw]
          by_cases hcb : c = b
          · rw [if_pos (by simpa using hcb)]
            refine unguard (gd := none) ?_
            exact evOp1_ok hsig hxs rfl (h.know (av := .s (.bool b)) (by rw [← hcb]; exact hsl) (fun k hk => by cases hk)) TP.nil (h1 hcb) fun σ' tp' tl' E' a' w' h' hT' hk' => hK _ _ (evTail_ok hsig hxs l tp' tl' σ' E' a' w' k h' hT' hk' hQ)
          · rw [if_neg (by simpa using hcb)]
            exact hK _ _ (evTail_ok hsig hxs l [] [] _ E _ w k (putTop_ok (h.know (av := .s (.bool (!b))) (by rw [show (!b) = c by cases c <;> cases b <;> simp_all]; exact hsl) (fun k hk => by cases hk)) hd) TP.nil (h2 (by cases c <;> cases b <;> simp_all)) hQ)
        · exact hk.elim
      · exact hk.elim
theorem evOne_ok {xs : XS} (hsig : SigOK sig) (hxs : XSigOK xs) {o : Oper} {k : St → Prop} (hgd : o.guard = none) (h : Rel base N σ E a w) (hk : evOp1 sig xs N o [] [] σ fun σ' _ _ => k σ') (hK : ∀ σ' E' a' w', Rel base N σ' E' a' w' → k σ' → K a' w') : o.wp Try.prog a w K Q :=
  evOp1_ok hsig hxs hgd h TP.nil hk fun σ' _ _ E' a' w' h' _ hk' => hK σ' E' a' w' h' hk'
/-! ### What is left waits for all ahead of it -/
def fullB : List Ent → List Oper → Nat → Bool
  | _, [], _ => true
  | V, o :: l, k => dpOf V o.after.toList == 2 ^ k - 1 && fullB (V ++ [⟨[], topFV, none, dpOf V o.after.toList⟩]) l (k + 1)
def Sem1 (ops : List Oper) (W : List Ent) : Prop := ∀ (j : Nat) (e : Ent) (o : Oper), W[j]? = some e → ops[j]? = some o → e.dp = dpOf (W.take j) o.after.toList
theorem dc_bits {ops : List Oper} {W : List Ent} {L : Nat → Bool} (hW : Sem1 ops W) (hWl : W.length ≤ ops.length) (hD : DC ops L) : ∀ (n j : Nat) (e : Ent), j < n → W[j]? = some e → L j = true → ∀ k, e.dp.testBit k = true → L k = true := by
  intro n
  induction n with
  | zero => intro j e hj; omega
  | succ n ih =>
    intro j e hj he hl k hk
    have hjl : j < W.length := (List.getElem?_eq_some_iff.1 he).1
    have hoj : ops[j]? = some ops[j] := List.getElem?_eq_getElem (by omega)
    rw [hW j e _ he hoj, dpOf_bit] at hk
    obtain ⟨ed, h1, h2, h3⟩ := hk
    have h4 : L ed.on = true := hD j _ hl hoj ed.on (List.any_eq_true.2 ⟨ed, h1, by simp [h2]⟩)
    rcases h3 with h3 | ⟨en, h3, h5⟩
    · rw [← h3]; exact h4
    · obtain ⟨h6, h7⟩ := take_get h3
      exact ih ed.on en (by omega) h7 h4 k h5
theorem fullB_ok {ops : List Oper} : ∀ (l : List Oper) (W : List Ent), Sem1 ops W → W.length ≤ ops.length → l = ops.drop W.length → fullB W l W.length = true → Full ops W.length
  | [], W, hW, hl, he, _ => by
    intro k o hk ho
    have : ops.length ≤ W.length := by
      have := congrArg List.length he
      simp at this; omega
    have := (List.getElem?_eq_some_iff.1 ho).1
    omega
  | o :: l, W, hW, hl, he, h => by
    simp only [fullB, Bool.and_eq_true, beq_iff_eq] at h
    have hlt : W.length < ops.length := by
      have := congrArg List.length he
      simp at this; omega
    have ho : ops[W.length]? = some o ∧ l = ops.drop (W.length + 1) := by
      rw [List.drop_eq_getElem_cons hlt] at he
      injection he with h1 h2
      exact ⟨by rw [List.getElem?_eq_getElem hlt, h1], h2⟩
    have hW' : Sem1 ops (W ++ [⟨[], topFV, none, dpOf W o.after.toList⟩]) := by
      intro j e o' hj hoj
      rcases Nat.lt_or_ge j W.length with h1 | h1
      · rw [List.getElem?_append_left h1] at hj
        rw [List.take_append_of_le_length (by omega)]
        exact hW j e o' hj hoj
      · have hj1 : j = W.length := by
          have := (List.getElem?_eq_some_iff.1 hj).1
          simp at this; omega
        subst hj1
        rw [List.getElem?_append_right (by omega)] at hj
        simp only [Nat.sub_self, List.getElem?_cons_zero, Option.some.injEq] at hj
        subst hj
        rw [ho.1] at hoj; injection hoj with hoj; subst hoj
        simp
    have ih := fullB_ok l (W ++ [⟨[], topFV, none, dpOf W o.after.toList⟩]) hW' (by simp; omega) (by simpa using ho.2) (by simpa using h.2)
    intro k o' hk ho' L hD haf j hj
    rcases Nat.lt_or_ge W.length k with h1 | h1
    · exact ih k o' (by simp; omega) ho' L hD haf j hj
    · obtain rfl : k = W.length := by omega
      rw [ho.1] at ho'; injection ho' with ho'; subst ho'
      have hbit : (dpOf W o.after.toList).testBit j = true := by
        rw [h.1, Nat.testBit_two_pow_sub_one]; simpa using hj
      rw [dpOf_bit] at hbit
      obtain ⟨ed, h2, h3, h4⟩ := hbit
      have h5 : L ed.on = true := haf ed.on (List.any_eq_true.2 ⟨ed, h2, by simp [h3]⟩)
      rcases h4 with h4 | ⟨en, h4, h6⟩
      · rw [← h4]; exact h5
      · exact dc_bits hW hl hD (ed.on + 1) ed.on en (by omega) h4 h5 j h6
end
end Go.Proofs.Ytdpokkegkedlfaa
