/- What is known of a frame; operations that write, one after the other. -/
import Derived.Test.YtdpokkegkedlfaaAx8
import Derived.Laws.AppendOwnNone
namespace Go.Proofs.Ytdpokkegkedlfaa
open Go.RowKit
set_option maxRecDepth 10000
/-- The frame's ground: the world at its start; whether its memory 0 is the caller's, handed in to be written, and its handle; what counts for written by others. -/
structure Base where
  w : World
  x : Bool
  v0 : Value
  L0 : Nat → Prop
  bn : Nat
def Base.X (b : Base) : Option Nat := if b.x then blk b.v0 else none
structure FrOK (base : Base) (B : Nat → Option Bx) (n : Nat) (E : Env) : Prop where
  big : base.bn ≤ base.w.heap.size
  l0lt : LtI base.L0 base.w
  own : ∀ k bx b, B k = some bx → blk (E.hd k) = some b → base.w.heap.size ≤ b ∨ (k = 0 ∧ base.x = true)
  l0 : ∀ b, base.L0 b → E.lv b
  xid : base.x = true → (∃ bx, B 0 = some bx) ∧ E.hd 0 = base.v0
  pos : 0 < n
theorem FrOK.X {base : Base} {B : Nat → Option Bx} {n : Nat} {E : Env} (h : FrOK base B n E) {k : Nat} {bx : Bx} {b : Nat} (hk : B k = some bx) (hb : blk (E.hd k) = some b) : base.w.heap.size ≤ b ∨ base.X = some b := by
  rcases h.own k bx b hk hb with h1 | ⟨rfl, h1⟩
  · exact .inl h1
  · refine .inr ?_
    rw [(h.xid h1).2] at hb
    simp [Base.X, h1, hb]
theorem gtrans {w w' w'' : World} {X Y : Option Nat} (h : w.grownBy w' X) (k : w'.grownBy w'' Y) (hy : ∀ i, i < w.heap.size → Y = some i → X = some i) : w.grownBy w'' X :=
  ⟨k.os.trans h.os, k.tape.trans h.tape, k.output.trans h.output, Nat.le_trans h.size k.size, fun i hi hne => (k.block i (Nat.lt_of_lt_of_le hi h.size) (fun e => hne (hy i hi e.symm).symm)).trans (h.block i hi hne)⟩
structure Rel (base : Base) (N : Nat) (σ : St) (E : Env) (a : Act) (w : World) : Prop where
  size : a.tmps.size = N
  defers : a.defers = []
  bel : base.w.grownBy w base.X
  slots : ∀ s, (lookT σ.t s).has E w (a.tmps.getD s undef)
  sids : ∀ s k, (lookT σ.t s).on k = true → k < σ.n
  bids : ∀ k bx, lookB σ.b k = some bx → k < σ.n ∧ bx.idsOK (fun j => Nat.blt j σ.n) = true
  mem : MemOK base.bn E w (lookB σ.b)
  dist : ∀ k k' bx bx' g, lookB σ.b k = some bx → lookB σ.b k' = some bx' → blk (E.hd k) = some g → blk (E.hd k') = some g → k = k'
  fr : FrOK base (lookB σ.b) σ.n E
def Ent.av (e : Ent) : AV := if e.path.isEmpty then (match e.f with | .v a => a | .tup _ => .s .top) else .s .top
def slotsOf : List Oper → List Ent → List (Nat × AV)
  | o :: ops, e :: V => match o.dst with
    | some d => (d, e.av) :: slotsOf ops V
    | none => slotsOf ops V
  | _, _ => []
def boxesOf (n : Nat) : Nat → List Ent → List (Nat × Bx)
  | _, [] => []
  | i, e :: V => match e.nb with
    | some bx => (n + i, bx) :: boxesOf n (i + 1) V
    | none => boxesOf n (i + 1) V
def afterPre (σ : St) (ops : List Oper) (V : List Ent) : St := ⟨slotsOf ops V ++ σ.t, boxesOf σ.n 0 V ++ σ.b, σ.n + ops.length⟩
theorem lookT_app (l m : List (Nat × AV)) (s : Nat) : (lookT (l ++ m) s = lookT m s ∧ ∀ p ∈ l, p.1 ≠ s) ∨ ∃ a, (s, a) ∈ l ∧ lookT (l ++ m) s = a := by
  induction l with
  | nil => exact .inl ⟨rfl, by simp⟩
  | cons p l ih =>
    obtain ⟨k, b⟩ := p
    by_cases hk : k = s
    · subst hk; exact .inr ⟨b, by simp, by simp [lookT]⟩
    · simp only [List.cons_append, lookT]
      rw [if_neg (by simpa using hk)]
      rcases ih with ⟨h1, h2⟩ | ⟨a, h1, h2⟩
      · refine .inl ⟨h1, fun p hp => ?_⟩
        rcases List.mem_cons.1 hp with rfl | hp
        · exact hk
        · exact h2 p hp
      · exact .inr ⟨a, List.mem_cons_of_mem _ h1, h2⟩
theorem slotsOf_mem {s : Nat} {a : AV} : ∀ (ops : List Oper) (V : List Ent), (s, a) ∈ slotsOf ops V → ∃ (j : Nat) (o : Oper) (e : Ent), ops[j]? = some o ∧ V[j]? = some e ∧ o.dst = some s ∧ a = e.av
  | [], V, h => by simp [slotsOf] at h
  | o :: ops, [], h => by simp [slotsOf] at h
  | o :: ops, e :: V, h => by
    simp only [slotsOf] at h
    have rest : (s, a) ∈ slotsOf ops V → ∃ (j : Nat) (o' : Oper) (e' : Ent), (o :: ops)[j]? = some o' ∧ (e :: V)[j]? = some e' ∧ o'.dst = some s ∧ a = e'.av := fun h => by
      obtain ⟨j, o', e', h1, h2, h3⟩ := slotsOf_mem ops V h
      exact ⟨j + 1, o', e', by simpa using h1, by simpa using h2, h3⟩
    split at h
    · rename_i d hd
      rcases List.mem_cons.1 h with h | h
      · injection h with h1 h2
        subst h1
        exact ⟨0, o, e, rfl, rfl, hd, h2⟩
      · exact rest h
    · exact rest h
theorem slotsOf_all {d j : Nat} : ∀ (ops : List Oper) (V : List Ent) (o : Oper) (e : Ent), ops[j]? = some o → V[j]? = some e → o.dst = some d → ∃ a, (d, a) ∈ slotsOf ops V := by
  induction j with
  | zero =>
    intro ops V o e ho he hd
    cases ops with
    | nil => simp at ho
    | cons o' ops =>
      cases V with
      | nil => simp at he
      | cons e' V =>
        simp only [List.getElem?_cons_zero, Option.some.injEq] at ho he
        subst ho he
        simp only [slotsOf, hd]
        exact ⟨_, List.mem_cons_self ..⟩
  | succ j ih =>
    intro ops V o e ho he hd
    cases ops with
    | nil => simp at ho
    | cons o' ops =>
      cases V with
      | nil => simp at he
      | cons e' V =>
        obtain ⟨a, ha⟩ := ih ops V o e (by simpa using ho) (by simpa using he) hd
        simp only [slotsOf]
        split
        · exact ⟨a, List.mem_cons_of_mem _ ha⟩
        · exact ⟨a, ha⟩
theorem lookB_app {m : List (Nat × Bx)} {k : Nat} {bx : Bx} : ∀ {l : List (Nat × Bx)}, lookB (l ++ m) k = some bx → (k, bx) ∈ l ∨ ((∀ p ∈ l, p.1 ≠ k) ∧ lookB m k = some bx)
  | [], h => .inr ⟨by simp, h⟩
  | (i, b) :: l, h => by
    simp only [List.cons_append, lookB] at h
    split at h
    · rename_i hk
      obtain rfl := beq_iff_eq.1 hk
      injection h with h; subst h
      exact .inl (List.mem_cons_self ..)
    · rename_i hk
      rcases lookB_app h with h | ⟨h1, h2⟩
      · exact .inl (List.mem_cons_of_mem _ h)
      · refine .inr ⟨fun p hp => ?_, h2⟩
        rcases List.mem_cons.1 hp with rfl | hp
        · simpa using hk
        · exact h1 p hp
theorem boxesOf_mem {n k : Nat} {bx : Bx} : ∀ (V : List Ent) (i : Nat), (k, bx) ∈ boxesOf n i V → ∃ (j : Nat) (e : Ent), V[j]? = some e ∧ e.nb = some bx ∧ k = n + (i + j)
  | [], i, h => by simp [boxesOf] at h
  | e :: V, i, h => by
    simp only [boxesOf] at h
    have rest : (k, bx) ∈ boxesOf n (i + 1) V → ∃ (j : Nat) (e' : Ent), (e :: V)[j]? = some e' ∧ e'.nb = some bx ∧ k = n + (i + j) := fun h => by
      obtain ⟨j, e', h1, h2, h3⟩ := boxesOf_mem V (i + 1) h
      exact ⟨j + 1, e', by simpa using h1, h2, by omega⟩
    split at h
    · rename_i b hb
      rcases List.mem_cons.1 h with h | h
      · injection h with h1 h2
        subst h1 h2
        exact ⟨0, e, rfl, hb, by omega⟩
      · exact rest h
    · exact rest h
section
variable {sig : FuncId → List AV → Option Sg} {σ : St} {base : Base} {N : Nat} {ops : List Oper} {V : List Ent} {Ez E : Env} {az a : Act} {wz w : World}
theorem Rel.lo (h : Rel base N σ E a w) : base.bn ≤ w.heap.size := Nat.le_trans h.fr.big h.bel.size
theorem Rel.pre (h : Rel base N σ E a w) (hd : ∀ o ∈ ops, ∀ d, o.dst = some d → d < N) : PreR σ base.bn ops E a w :=
  ⟨h.slots, h.sids, h.bids, h.mem, h.dist, h.lo, fun o ho d hod => by rw [h.size]; exact hd o ho d hod⟩
/-- Behind a region's first part the frame is as told. -/
theorem Rel.of_RJ (h : Rel base N σ Ez az wz) (hd : ∀ o ∈ ops, ∀ d, o.dst = some d → d < N) (hV : VOK sig σ ops V) (hJ : RJ σ base.bn ops V Ez az wz (fun j => decide (j < V.length)) E a w) : Rel base N (afterPre σ ops V) E a w := by
  have hpre := h.pre hd
  have hin : ∀ j, j < V.length → decide (j < V.length) = true := fun j hj => by simpa using hj
  have hslot : ∀ s, (lookT (afterPre σ ops V).t s).has E w (a.tmps.getD s undef) ∧ ∀ k, (lookT (afterPre σ ops V).t s).on k = true → k < (afterPre σ ops V).n := by
    intro s
    rcases lookT_app (slotsOf ops V) σ.t s with ⟨h1, h2⟩ | ⟨av, h1, h2⟩
    · show (lookT (slotsOf ops V ++ σ.t) s).has E w _ ∧ ∀ k, (lookT (slotsOf ops V ++ σ.t) s).on k = true → k < σ.n + ops.length
      rw [h1]
      refine ⟨?_, fun k hk => by have := h.sids s k hk; omega⟩
      have hno : ∀ j, dIdx ops s = some j → decide (j < V.length) = false := by
        intro j hj
        by_cases hjV : j < V.length
        · exfalso
          obtain ⟨hlt, hj2, _⟩ := List.findIdx?_eq_some_iff_getElem.1 hj
          obtain ⟨av, hav⟩ := slotsOf_all ops V ops[j] V[j] (List.getElem?_eq_getElem hlt) (List.getElem?_eq_getElem hjV) (beq_iff_eq.1 hj2)
          exact h2 _ hav rfl
        · simpa using hjV
      rw [hJ.old s hno]
      exact AV.has_evo hJ.evo (fun k hk => hJ.hd k (h.sids s k hk)) (h.slots s)
    · show (lookT (slotsOf ops V ++ σ.t) s).has E w _ ∧ ∀ k, (lookT (slotsOf ops V ++ σ.t) s).on k = true → k < σ.n + ops.length
      rw [h2]
      obtain ⟨j, o, e, h3, h4, h5, h6⟩ := slotsOf_mem ops V h1
      have hjV : j < V.length := (List.getElem?_eq_some_iff.1 h4).1
      obtain ⟨o', p, path, d, p0, f, nb, q0, _, _, q2, q3, _, _, q6, _, _, q9⟩ := ent_of hV h4
      rw [h3] at q0; injection q0 with q0; subst q0
      rw [h5] at q2; injection q2 with q2; subst q2
      obtain ⟨n1, _⟩ := hJ.new j e s (hin j hjV) h4 q3
      unfold Ent.av at h6
      by_cases hpe : e.path.isEmpty = true
      · rw [if_pos hpe] at h6
        have hpo : pathOK V e.path := by
          cases hp : e.path with
          | nil => intro q hq; cases hq
          | cons x y => rw [hp] at hpe; simp at hpe
        have hf := n1 hpo
        have hid : e.f.idsOK (okIds σ j e.dp nb.isSome) = true := by rw [q9]; exact q6
        cases hef : e.f with
        | v b =>
          rw [hef] at h6 hf hid
          simp only at h6
          subst h6
          refine ⟨hf, fun k hk => ?_⟩
          have := ids_listed hV hJ (hin j hjV) h4 (FV.idsOK_on hid (k := k) hk)
          rcases this with h | ⟨_, h⟩
          · omega
          · have h' : k - σ.n < V.length := by simpa using h
            have := hV.1
            omega
        | tup l => rw [hef] at h6; simp only at h6; subst h6; exact ⟨trivial, fun k hk => by cases hk⟩
      · rw [if_neg hpe] at h6
        subst h6
        exact ⟨trivial, fun k hk => by cases hk⟩
  have hB : ∀ k bx, lookB (afterPre σ ops V).b k = some bx → rB σ V (fun j => decide (j < V.length)) k = some bx := by
    intro k bx hk
    rcases lookB_app hk with h1 | ⟨_, h1⟩
    · obtain ⟨j, e, h2, h3, h4⟩ := boxesOf_mem V 0 h1
      obtain rfl : k = σ.n + j := by omega
      exact rB_new hpre (hin j (List.getElem?_eq_some_iff.1 h2).1) h2 h3
    · exact rB_old h1
  have hFr : FrOK base (lookB (afterPre σ ops V).b) (afterPre σ ops V).n E := by
    refine ⟨h.fr.big, h.fr.l0lt, fun k bx b hk hb => ?_, fun b hb => hJ.up b (h.fr.l0 b hb), fun hx => ?_, Nat.lt_of_lt_of_le h.fr.pos (Nat.le_add_right _ _)⟩
    · cases hl : lookB σ.b k with
      | none => exact .inl (Nat.le_trans h.bel.size (hJ.own k bx b (hB k bx hk) hl hb))
      | some bx' =>
        rw [hJ.hd k (h.bids k bx' hl).1] at hb
        exact h.fr.own k bx' b hl hb
    · obtain ⟨⟨bx, h1⟩, h2⟩ := h.fr.xid hx
      refine ⟨?_, (hJ.hd 0 h.fr.pos).trans h2⟩
      cases hl : lookB (boxesOf σ.n 0 V ++ σ.b) 0 with
      | some y => exact ⟨y, hl⟩
      | none =>
        exfalso
        have : ∀ (l : List (Nat × Bx)), lookB (l ++ σ.b) 0 ≠ none := by
          intro l
          induction l with
          | nil => simp [h1]
          | cons p l ih =>
            obtain ⟨i, y⟩ := p
            simp only [List.cons_append, lookB]
            split
            · simp
            · exact ih
        exact this _ hl
  refine ⟨by rw [hJ.size]; exact h.size, by rw [hJ.defers]; exact h.defers, gtrans h.bel hJ.grown (fun _ _ e => by cases e), fun s => (hslot s).1, fun s => (hslot s).2, fun k bx hk => ?_, hJ.mem.mono hB, fun k k' bx bx' g h1 h2 => hJ.dist k k' bx bx' g (hB k bx h1) (hB k' bx' h2), hFr⟩
  rcases lookB_app hk with h1 | ⟨_, h1⟩
  · obtain ⟨j, e, h2, h3, h4⟩ := boxesOf_mem V 0 h1
    have hjV : j < V.length := (List.getElem?_eq_some_iff.1 h2).1
    obtain ⟨o', p, path, d, p0, f, nb, _, _, _, _, _, _, _, _, q7, _, q9⟩ := ent_of hV h2
    have := hV.1
    refine ⟨by show k < σ.n + ops.length; omega, ?_⟩
    have hnb : nb = some bx := by rw [q9] at h3; exact h3
    have h5 := q7 bx hnb
    cases bx with
    | row e c => rfl
    | mp l => rfl
    | box l =>
      refine List.all_eq_true.2 fun s hs => ?_
      have h6 := List.all_eq_true.1 h5 s hs
      have hall : ∀ k', s.on k' = true → k' < σ.n + ops.length := fun k' hk' => by
        have := ids_listed hV hJ (hin j hjV) h2 (k := k') (nw := false) (by rw [q9]; exact SV.idsOK_on h6 hk')
        rcases this with h | ⟨_, h⟩
        · omega
        · have h' : k' - σ.n < V.length := by simpa using h
          omega
      cases s <;> first | rfl | (simp only [SV.idsOK]; exact blt_iff.2 (hall _ (by simp [SV.on])))
  · obtain ⟨h2, h3⟩ := h.bids k bx h1
    refine ⟨by show k < σ.n + ops.length; omega, ?_⟩
    cases bx with
    | row e c => rfl
    | mp l => rfl
    | box l =>
      refine List.all_eq_true.2 fun s hs => ?_
      have h6 := List.all_eq_true.1 h3 s hs
      have hall : ∀ k', s.on k' = true → k' < σ.n + ops.length := fun k' hk' => by
        have := blt_iff.1 (SV.idsOK_on h6 hk'); omega
      cases s <;> first | rfl | (simp only [SV.idsOK]; exact blt_iff.2 (hall _ (by simp [SV.on])))
end
end Go.Proofs.Ytdpokkegkedlfaa
