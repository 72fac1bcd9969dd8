/- Operations that make memory of the call's own: variables, literal slices, new slices, what a callee has made. -/
import Derived.Test.YtdpokkegkedlfaaAx4
import Derived.Laws.OwnMore
namespace Go.Proofs.Ytdpokkegkedlfaa
open Go.RowKit
set_option maxRecDepth 10000
/-- The environment with one more piece of memory of the call's own. -/
def Env.new (E : Env) (id : Nat) (v : Value) : Env := ⟨fun k => if k = id then v else E.hd k, fun b => E.lv b ∨ blk v = some b, E.rr⟩
def litInts (G : Operand → FV) : List (Nat × Operand) → Nat → Option (List Int)
  | [], _ => some []
  | (i, x) :: l, k => if i == k then match G x, litInts G l (k + 1) with
    | .v (.s (.int n)), some m => some (n :: m)
    | _, _ => none else none
def litBools (G : Operand → FV) : List (Nat × Operand) → Nat → Option (List Bool)
  | [], _ => some []
  | (i, x) :: l, k => if i == k then match G x, litBools G l (k + 1) with
    | .v (.s (.bool n)), some m => some (n :: m)
    | _, _ => none else none
def litPts (G : Operand → FV) : List (Nat × Operand) → Nat → Option (List Pt)
  | [], _ => some []
  | (i, x) :: l, k => if i == k then match G x, litPts G l (k + 1) with
    | .v (.agg [.int n, .int n']), some m => some ((n, n') :: m)
    | _, _ => none else none
def litIntss (G : Operand → FV) : List (Nat × Operand) → Nat → Option (List (List Int))
  | [], _ => some []
  | (i, x) :: l, k => if i == k then match G x, litIntss G l (k + 1) with
    | .v (.s (.view (.ints n))), some m => some (n :: m)
    | _, _ => none else none
def litPtss (G : Operand → FV) : List (Nat × Operand) → Nat → Option (List (List Pt))
  | [], _ => some []
  | (i, x) :: l, k => if i == k then match G x, litPtss G l (k + 1) with
    | .v (.s (.view (.pts n))), some m => some (n :: m)
    | _, _ => none else none
def litBoolss (G : Operand → FV) : List (Nat × Operand) → Nat → Option (List (List Bool))
  | [], _ => some []
  | (i, x) :: l, k => if i == k then match G x, litBoolss G l (k + 1) with
    | .v (.s (.view (.bools n))), some m => some (n :: m)
    | _, _ => none else none
def litCont (G : Operand → FV) (ps : List (Nat × Operand)) : Cont → Option Cont
  | .ints _ => (litInts G ps 0).map .ints
  | .pts _ => (litPts G ps 0).map .pts
  | .bools _ => (litBools G ps 0).map .bools
  | .intss _ => (litIntss G ps 0).map .intss
  | .ptss _ => (litPtss G ps 0).map .ptss
  | .boolss _ => (litBoolss G ps 0).map .boolss
def repCont (n : Int) : Cont → Cont
  | .ints _ => .ints (irep n 0)
  | .pts _ => .pts (irep n (0, 0))
  | .bools _ => .bools (irep n false)
  | .intss _ => .intss (irep n [])
  | .ptss _ => .ptss (irep n [])
  | .boolss _ => .boolss (irep n [])
/-- What is owed, the memory made, whether the value is a pointer to it. -/
def aOp (sig : FuncId → List AV → Option Sg) (B : Nat → Option Bx) (G : Operand → FV) (ty : TypeId) : Op → Option (Prop × Bx × Bool)
  | .move x => match G x, tyOf ty with
    | .v (.s .nil), some (.sl e c) => some (True, .row e c, false)
    | _, _ => none
  | .assign x => match G x, tyOf ty with
    | .v (.s .nil), some (.sl e c) => some (True, .row e c, false)
    | _, _ => none
  | .alloc e => match stZ e with
    | some z => some (True, .box z, true)
    | none => none
  | .box e x => match tyOf e, G x with
    | some (.st _), .v (.agg l) => some (True, .box l, true)
    | _, _ => none
  | .buildSlice t n ps => match tyOf t with
    | some (.sl e c) => if ps.toList.length == n && Nat.ble n 1000 then match litCont G ps.toList c with
      | some c' => some (True, .row e c', false)
      | none => none else none
    | _ => none
  | .makeSlice t l c => match tyOf t, G l, G c with
    | some (.sl e c0), .v (.s (.int n)), .v (.s (.int m)) => some (NLe 0 n ∧ NLe n 100000000 ∧ NIs (ieq n m) true, .row e (repCont n c0), false)
    | _, _, _ => none
  | .call ⟨.value (.func f), args, _⟩ => match cvAs B G args.toList with
    | some avs => match sig f avs with
      | some ⟨p, [.nrow e c]⟩ => if frAs G args.toList || !c.nest then some (p, .row e c, false) else none
      | some ⟨p, [.nbox l]⟩ => if frAs G args.toList && l.all (·.free) then some (p, .box l, true) else none
      | _ => none
    | none => none
  | _ => none
/-- The slot's reading. -/
def aSV (id : Nat) (b : Bool) : FV := .v (.s (if b then .ptr id 0 else .row id))
section
variable {sig : FuncId → List AV → Option Sg} {base : Nat} {E : Env} {w : World} {B : Nat → Option Bx} {G : Operand → FV} {a : Act} {K : Act → World → Prop} {Q : Exit → Act → World → Prop} {p : Prop} {bx : Bx} {pt : Bool}
/-- What comes of it: new memory, as told, in a world that has only grown. -/
def AOut (base : Nat) (E : Env) (w : World) (id : Nat) (bx : Bx) (pt : Bool) (a : Act) (o : Oper) (K : Act → World → Prop) : Prop :=
  ∀ v w', w.grownBy w' none → bx.ok base (E.new id v) w' v → (aSV id pt).has (E.new id v) w' v → (∀ b, blk v = some b → w.heap.size ≤ b) → K (a.put o.dst v) w'
theorem new_evo {id : Nat} {v : Value} {w' : World} (h : w.grownBy w' none) (hb : ∀ b, blk v = some b → w.heap.size ≤ b) : Evo E (E.new id v) w w' :=
  ⟨h.size, fun b hb _ => h.block b hb (by simp), fun b hlt hl => by
    rcases hl with hl | hl
    · exact hl
    · have := hb b hl; omega, fun _ h => h⟩
theorem new_hd {id k : Nat} {v : Value} (h : k ≠ id) : (E.new id v).hd k = E.hd k := by simp [Env.new, h]
theorem new_hd_self (id : Nat) (v : Value) : (E.new id v).hd id = v := by simp [Env.new]
theorem empty_cells {L : Nat → Prop} {c : Cont} (h : c.len = 0) : CellsOK L w [] c := by
  cases c <;> simp only [Cont.len] at h <;> simp_all [CellsOK, ptCells]
theorem aNil_out {id : Nat} {o : Oper} {ty e : TypeId} {c : Cont} (ht : tyOf ty = some (.sl e c)) (hq : AOut base E w id (.row e c) false a o K) : K (a.put o.dst (.slice none 0 0)) w := by
  obtain ⟨_, h0, _⟩ := ty_sl ht
  refine hq _ w (same_grown w) ⟨[], ⟨by rw [h0]; simp, .inl ⟨rfl, h0⟩⟩, empty_cells h0⟩ ?_ (fun b hb => by cases hb)
  show _ = _
  exact (new_hd_self id _).symm
theorem box_ok {id : Nat} {l : List SV} {cs : Array Value} {e : TypeId} (hb : base ≤ w.heap.size) (hid : ∀ s ∈ l, s.on id = false) (hl : hasL E w cs.toList l) :
    (Bx.box l).ok base (E.new id (.pointer (some ⟨w.heap.size, 0, none⟩))) (w.alloc (.cells cs e)) (.pointer (some ⟨w.heap.size, 0, none⟩)) := by
  refine ⟨w.heap.size, cs, e, rfl, hb, heap_alloc_new w _, ?_⟩
  refine hasL_evo (new_evo (World.grownBy_alloc w _ none) (fun b hb => by simp only [blk, Option.some.injEq] at hb; omega)) (fun s hs k hk => new_hd ?_) hl
  rintro rfl
  rw [hid s hs] at hk; cases hk
theorem box_out {id : Nat} {o : Oper} {l : List SV} {cs : Array Value} {e : TypeId} (hb : base ≤ w.heap.size) (hid : ∀ s ∈ l, s.on id = false) (hl : hasL E w cs.toList l) (hq : AOut base E w id (.box l) true a o K) :
    K (a.put o.dst (.pointer (some ⟨w.heap.size, 0, none⟩))) (w.alloc (.cells cs e)) := by
  refine hq _ _ (World.grownBy_alloc w _ none) (box_ok hb hid hl) ?_ (fun b hb => by simp only [blk, Option.some.injEq] at hb; omega)
  show _ = _
  rw [new_hd_self]
  rfl
theorem zero_free : ∀ (z : List SV) (vs : List Value), zeroOk z vs = true → ∀ s ∈ z, ∀ id, s.on id = false
  | [], _, _, s, hs, _ => by simp at hs
  | a :: l, [], h, _, _, _ => by cases a <;> simp [zeroOk] at h
  | a :: l, v :: vs, h, s, hs, id => by
    unfold zeroOk at h
    split at h
    all_goals first | cases h | skip
    · rename_i e1 e2; simp at e1
    all_goals
      rename_i e1 e2
      injection e1 with e3 e4; injection e2 with e5 e6
      subst e3 e4 e5 e6
      rcases List.mem_cons.1 hs with rfl | hs
      · rfl
      · exact zero_free _ _ h s hs id
variable (dst : Option Tmp) (ty : TypeId) (pos : String) (af : Array Edge)
theorem aAlloc_ok {id : Nat} {e : TypeId} {z : List SV} (hb : base ≤ w.heap.size) (ht : stZ e = some z) (hq : AOut base E w id (.box z) true a ⟨dst, .alloc e, ty, pos, af, none⟩ K) : Oper.wp Try.prog ⟨dst, .alloc e, ty, pos, af, none⟩ a w K Q := by
  obtain ⟨_, i, cs, hi, hz, hok⟩ := ty_z ht
  refine wp_run (w' := w.alloc (.cells cs e)) (v := .pointer (some ⟨w.heap.size, 0, none⟩)) ?_ (box_out hb (fun s hs => zero_free _ _ hok s hs id) (zeroOk_has _ _ hok) hq)
  unfold execOp
  simp [Instr.alloc, zeroValue, typeInfo, hi, hz, newVar, newRow, Value.cells]
theorem aBox_ok {id : Nat} {e : TypeId} {x : Operand} {l : List SV} (hb : base ≤ w.heap.size) (hx : (FV.v (.agg l)).has E w (a.eval x)) (hid : ∀ s ∈ l, s.on id = false) (hq : AOut base E w id (.box l) true a ⟨dst, .box e x, ty, pos, af, none⟩ K) : Oper.wp Try.prog ⟨dst, .box e x, ty, pos, af, none⟩ a w K Q := by
  obtain ⟨cs, e1, hl⟩ := hx
  refine wp_run (w' := w.alloc (.cells cs e)) (v := .pointer (some ⟨w.heap.size, 0, none⟩)) ?_ (box_out hb hid hl hq)
  unfold execOp
  generalize a.eval = ρ at *
  simp [e1, Instr.box, newVar, newRow, Value.cells]
def idxd : Nat → List Value → List (Nat × Value)
  | _, [] => []
  | k, v :: l => (k, v) :: idxd (k + 1) l
theorem fill_one : ∀ (us : List Value) (k : Nat) (dn rs : List Value), (∀ u ∈ us, u.cells = #[u]) → dn.length = k → rs.length = us.length →
    Instr.fill (fun i => some (i, 1)) (dn ++ rs).toArray (idxd k us) = some (dn ++ us).toArray
  | [], k, dn, rs, _, _, h => by
    cases rs with
    | nil => rfl
    | cons _ _ => simp at h
  | u :: us, k, dn, rs, hu, hd, hr => by
    cases rs with
    | nil => simp at hr
    | cons r rs =>
      have h1 := hu u (List.mem_cons_self ..)
      have ih := fill_one us (k + 1) (dn ++ [u]) rs (fun v hv => hu v (List.mem_cons_of_mem _ hv)) (by simp [hd]) (by simpa using hr)
      simp only [idxd, Instr.fill, h1]
      rw [if_neg (by simp [hd])]
      have : (dn ++ r :: rs).toArray.setIfInBounds (k + 0) u = (dn ++ [u] ++ rs).toArray := by
        subst hd
        simp
      show Instr.fill _ ((dn ++ r :: rs).toArray.setIfInBounds (k + 0) u) _ = _
      rw [this, ih]
      simp
theorem fill_two : ∀ (ps : List Pt) (k : Nat) (dn rs : List Value), dn.length = k * 2 → rs.length = ps.length * 2 →
    Instr.fill (fun i => some (i * 2, 2)) (dn ++ rs).toArray (idxd k (ps.map ptV)) = some (dn ++ ptCells ps).toArray
  | [], k, dn, rs, _, h => by
    cases rs with
    | nil => simp [idxd, Instr.fill, ptCells]
    | cons _ _ => simp at h
  | p :: ps, k, dn, rs, hd, hr => by
    match rs, hr with
    | [], hr => simp at hr
    | [r], hr => simp at hr; omega
    | r :: r' :: rs, hr =>
      have ih := fill_two ps (k + 1) (dn ++ [.int .i64 p.1, .int .i64 p.2]) rs (by simp [hd]; omega) (by simp at hr ⊢; omega)
      simp only [List.map_cons, idxd, Instr.fill]
      have h1 : (ptV p).cells = #[.int .i64 p.1, .int .i64 p.2] := rfl
      simp only [h1]
      rw [if_neg (by simp [hd])]
      have : ((dn ++ r :: r' :: rs).toArray.setIfInBounds (k * 2 + 0) (Value.int .i64 p.1)).setIfInBounds (k * 2 + 1) (Value.int .i64 p.2) = (dn ++ [Value.int .i64 p.1, Value.int .i64 p.2] ++ rs).toArray := by
        rw [← hd]
        simp
      show Instr.fill _ (((dn ++ r :: r' :: rs).toArray.setIfInBounds (k * 2 + 0) (Value.int .i64 p.1)).setIfInBounds (k * 2 + 1) (Value.int .i64 p.2)) _ = _
      rw [this, ih]
      simp [ptCells]
/-- A literal slice of such cells. -/
theorem lit_out {id n : Nat} {o : Oper} {e : TypeId} {c : Cont} {us : List Value} (hb : base ≤ w.heap.size) (hn : n = c.len) (hm : n ≤ 1000) (hl : us.length = n * c.sz) (hc : CellsOK E.lv w us c)
    (hq : AOut base E w id (.row e c) false a o K) : K (a.put o.dst (.slice (some ⟨w.heap.size, 0, none⟩) n n)) (w.alloc (.cells us.toArray e)) := by
  subst hn
  refine hq _ _ (World.grownBy_alloc w _ none) ⟨us, ⟨hl, .inr ⟨w.heap.size, c.len, us.toArray, rfl, hb, heap_alloc_new w _, Nat.le_refl _, by unfold maxLen; omega, by simpa using hl, ?_⟩⟩, ?_⟩ ?_ (fun b hb => by simp only [blk, Option.some.injEq] at hb; omega)
  · rw [← hl]; simp
  · exact hc.evo (new_evo (World.grownBy_alloc w _ none) (fun b hb => by simp only [blk, Option.some.injEq] at hb; omega))
  · show _ = _
    rw [new_hd_self]
theorem run_bs {t e : TypeId} {c : Cont} (ht : tyOf t = some (.sl e c)) (n : Nat) (hn : n ≤ 1000) (ps : Array (Nat × Value)) (us : List Value)
    (hf : ∀ rs : List Value, rs.length = n * c.sz → Instr.fill (fun i => some (i * c.sz, c.sz)) rs.toArray ps.toList = some us.toArray) :
    (Instr.buildSlice t n ps).run Try.prog w = .ok (.slice (some ⟨w.heap.size, 0, none⟩) n n) (w.alloc (.cells us.toArray e)) := by
  obtain ⟨hu, _, i, z, hi, hs, _, hz, hzs, _⟩ := ty_sl ht
  have hsz : c.sz ≤ 2 := by cases c <;> simp [Cont.sz]
  have h1 : ¬ 16777216 < n * c.sz := by
    have := Nat.mul_le_mul hn hsz
    omega
  by_cases h0 : n * c.sz = 0
  · have hf' := hf [] (by simp [h0])
    simp [Instr.buildSlice, run_underlying hu, sizeOf, typeInfo, hi, hs, h0, newRow] 
    rw [show (Array.map (fun _ => default) (Array.range 0) : Array Value) = #[] from by simp, hf']
    simp
  · have hf' := hf ((Array.range (n * c.sz)).map (z.cells[· % z.cells.size]!)).toList (by simp)
    simp only [Array.toArray_toList] at hf'
    simp only [Instr.buildSlice, Sem.run_bind, run_underlying hu, Result.andThen_ok, sizeOf, typeInfo, run_program, hi, Sem.run_pure, hs]
    simp [h1, h0, zeroValue, typeInfo, hi, hz, newRow]
    rw [hf']
    simp
theorem idxd_map {ρ : Operand → Value} {ps : List (Nat × Operand)} : (ps.map fun q => (q.1, ρ q.2)).length = ps.length := by simp
theorem litInts_ok {ρ : Operand → Value} (hG : ∀ x, (G x).has E w (ρ x)) : ∀ (ps : List (Nat × Operand)) (k : Nat) (m : List Int), litInts G ps k = some m → m.length = ps.length ∧ ps.map (fun q => (q.1, ρ q.2)) = idxd k (m.map (Value.int .i64))
  | [], k, m, h => by simp only [litInts] at h; injection h with h; subst h; exact ⟨rfl, rfl⟩
  | (i, x) :: l, k, m, h => by
    simp only [litInts] at h
    split at h
    · rename_i hk
      obtain rfl := beq_iff_eq.1 hk
      split at h
      · rename_i n m' hn hm
        injection h with h; subst h
        obtain ⟨h1, h2⟩ := litInts_ok hG l _ m' hm
        have hx := hG x
        rw [hn] at hx
        exact ⟨by simp [h1], by simp only [List.map_cons, idxd, h2, show ρ x = .int .i64 n from hx]⟩
      · cases h
    · cases h
theorem litBools_ok {ρ : Operand → Value} (hG : ∀ x, (G x).has E w (ρ x)) : ∀ (ps : List (Nat × Operand)) (k : Nat) (m : List Bool), litBools G ps k = some m → m.length = ps.length ∧ ps.map (fun q => (q.1, ρ q.2)) = idxd k (m.map Value.bool)
  | [], k, m, h => by simp only [litBools] at h; injection h with h; subst h; exact ⟨rfl, rfl⟩
  | (i, x) :: l, k, m, h => by
    simp only [litBools] at h
    split at h
    · rename_i hk
      obtain rfl := beq_iff_eq.1 hk
      split at h
      · rename_i n m' hn hm
        injection h with h; subst h
        obtain ⟨h1, h2⟩ := litBools_ok hG l _ m' hm
        have hx := hG x
        rw [hn] at hx
        exact ⟨by simp [h1], by simp only [List.map_cons, idxd, h2, show ρ x = .bool n from hx]⟩
      · cases h
    · cases h
theorem agg2_form {v : Value} {n m : Int} (h : (FV.v (.agg [.int n, .int m])).has E w v) : v = .agg #[.int .i64 n, .int .i64 m] := by
  obtain ⟨⟨cl⟩, e1, hl⟩ := h
  match cl, hl with
  | [u, v], hl => obtain ⟨h1, h2, _⟩ := hl; rw [e1, show u = _ from h1, show v = _ from h2]
  | [], hl => exact hl.elim
  | [u], hl => exact hl.2.elim
  | u :: v :: z :: l, hl => exact hl.2.2.elim
theorem litPts_ok {ρ : Operand → Value} (hG : ∀ x, (G x).has E w (ρ x)) : ∀ (ps : List (Nat × Operand)) (k : Nat) (m : List Pt), litPts G ps k = some m → m.length = ps.length ∧ ps.map (fun q => (q.1, ρ q.2)) = idxd k (m.map ptV)
  | [], k, m, h => by simp only [litPts] at h; injection h with h; subst h; exact ⟨rfl, rfl⟩
  | (i, x) :: l, k, m, h => by
    simp only [litPts] at h
    split at h
    · rename_i hk
      obtain rfl := beq_iff_eq.1 hk
      split at h
      · rename_i n n' m' hn hm
        injection h with h; subst h
        obtain ⟨h1, h2⟩ := litPts_ok hG l _ m' hm
        have hx := hG x
        rw [hn] at hx
        exact ⟨by simp [h1], by simp only [List.map_cons, idxd, h2, agg2_form hx, ptV]⟩
      · cases h
    · cases h
theorem litIntss_ok {ρ : Operand → Value} (hG : ∀ x, (G x).has E w (ρ x)) : ∀ (ps : List (Nat × Operand)) (k : Nat) (m : List (List Int)), litIntss G ps k = some m → ∃ us : List Value, us.length = ps.length ∧ m.length = ps.length ∧ ps.map (fun q => (q.1, ρ q.2)) = idxd k us ∧
    ∀ (j : Nat) u n, us[j]? = some u → m[j]? = some n → Reads E.lv w u (.ints n)
  | [], k, m, h => by simp only [litIntss] at h; injection h with h; subst h; exact ⟨[], rfl, rfl, rfl, fun j u n h => by simp at h⟩
  | (i, x) :: l, k, m, h => by
    simp only [litIntss] at h
    split at h
    · rename_i hk
      obtain rfl := beq_iff_eq.1 hk
      split at h
      · rename_i n m' hn hm
        injection h with h; subst h
        obtain ⟨us, h1, h2, h3, h4⟩ := litIntss_ok hG l _ m' hm
        have hx := hG x
        rw [hn] at hx
        refine ⟨ρ x :: us, by simp [h1], by simp [h2], by simp only [List.map_cons, idxd, h3], fun j u n' hu hn' => ?_⟩
        cases j with
        | zero => simp only [List.getElem?_cons_zero, Option.some.injEq] at hu hn'; subst hu hn'; exact hx
        | succ j => exact h4 j u n' (by simpa using hu) (by simpa using hn')
      · cases h
    · cases h
theorem litPtss_ok {ρ : Operand → Value} (hG : ∀ x, (G x).has E w (ρ x)) : ∀ (ps : List (Nat × Operand)) (k : Nat) (m : List (List Pt)), litPtss G ps k = some m → ∃ us : List Value, us.length = ps.length ∧ m.length = ps.length ∧ ps.map (fun q => (q.1, ρ q.2)) = idxd k us ∧
    ∀ (j : Nat) u n, us[j]? = some u → m[j]? = some n → Reads E.lv w u (.pts n)
  | [], k, m, h => by simp only [litPtss] at h; injection h with h; subst h; exact ⟨[], rfl, rfl, rfl, fun j u n h => by simp at h⟩
  | (i, x) :: l, k, m, h => by
    simp only [litPtss] at h
    split at h
    · rename_i hk
      obtain rfl := beq_iff_eq.1 hk
      split at h
      · rename_i n m' hn hm
        injection h with h; subst h
        obtain ⟨us, h1, h2, h3, h4⟩ := litPtss_ok hG l _ m' hm
        have hx := hG x
        rw [hn] at hx
        refine ⟨ρ x :: us, by simp [h1], by simp [h2], by simp only [List.map_cons, idxd, h3], fun j u n' hu hn' => ?_⟩
        cases j with
        | zero => simp only [List.getElem?_cons_zero, Option.some.injEq] at hu hn'; subst hu hn'; exact hx
        | succ j => exact h4 j u n' (by simpa using hu) (by simpa using hn')
      · cases h
    · cases h
theorem litBoolss_ok {ρ : Operand → Value} (hG : ∀ x, (G x).has E w (ρ x)) : ∀ (ps : List (Nat × Operand)) (k : Nat) (m : List (List Bool)), litBoolss G ps k = some m → ∃ us : List Value, us.length = ps.length ∧ m.length = ps.length ∧ ps.map (fun q => (q.1, ρ q.2)) = idxd k us ∧
    ∀ (j : Nat) u n, us[j]? = some u → m[j]? = some n → Reads E.lv w u (.bools n)
  | [], k, m, h => by simp only [litBoolss] at h; injection h with h; subst h; exact ⟨[], rfl, rfl, rfl, fun j u n h => by simp at h⟩
  | (i, x) :: l, k, m, h => by
    simp only [litBoolss] at h
    split at h
    · rename_i hk
      obtain rfl := beq_iff_eq.1 hk
      split at h
      · rename_i n m' hn hm
        injection h with h; subst h
        obtain ⟨us, h1, h2, h3, h4⟩ := litBoolss_ok hG l _ m' hm
        have hx := hG x
        rw [hn] at hx
        refine ⟨ρ x :: us, by simp [h1], by simp [h2], by simp only [List.map_cons, idxd, h3], fun j u n' hu hn' => ?_⟩
        cases j with
        | zero => simp only [List.getElem?_cons_zero, Option.some.injEq] at hu hn'; subst hu hn'; exact hx
        | succ j => exact h4 j u n' (by simpa using hu) (by simpa using hn')
      · cases h
    · cases h
theorem reads_flat {L : Nat → Prop} {u : Value} {c : Cont} (h : Reads L w u c) : ∀ sz xs, c.sz = sz → CellsOK L w xs c → (∀ ys, CellsOK L w ys c → ys = xs) → Flat L w u sz c.len xs := by
  intro sz xs hs _ hu
  obtain ⟨ys, h1, h2⟩ := h
  rw [← hs, ← hu ys h2]; exact h1
theorem reads_cells {u : Value} {c : Cont} (h : Reads E.lv w u c) : u.cells = #[u] := by
  obtain ⟨A, cap, e⟩ := reads_form h; rw [e]; rfl
theorem idxd_cells {us : List Value} (h : ∀ (j : Nat) u, us[j]? = some u → u.cells = #[u]) : ∀ u ∈ us, u.cells = #[u] := by
  intro u hu
  obtain ⟨j, hj⟩ := List.getElem?_of_mem hu
  exact h j u hj
theorem litCont_ok {ρ : Operand → Value} (hG : ∀ x, (G x).has E w (ρ x)) (ps : List (Nat × Operand)) (c c' : Cont) (h : litCont G ps c = some c') : ∃ us : List Value, c'.len = ps.length ∧ c'.sz = c.sz ∧ us.length = ps.length * c.sz ∧ CellsOK E.lv w us c' ∧
    ∀ rs : List Value, rs.length = ps.length * c.sz → Instr.fill (fun i => some (i * c.sz, c.sz)) rs.toArray (ps.map fun q => (q.1, ρ q.2)) = some us.toArray := by
  cases c with
  | ints l =>
    simp only [litCont, Option.map_eq_some_iff] at h
    obtain ⟨m, hm, rfl⟩ := h
    obtain ⟨h1, h2⟩ := litInts_ok hG ps 0 m hm
    refine ⟨m.map (Value.int .i64), h1, rfl, by simp [Cont.sz, h1], rfl, fun rs hr => ?_⟩
    rw [h2]
    simpa [Cont.sz] using fill_one (m.map (Value.int .i64)) 0 [] rs (by simp [Value.cells]) rfl (by simp [Cont.sz] at hr; simp [hr, h1])
  | bools l =>
    simp only [litCont, Option.map_eq_some_iff] at h
    obtain ⟨m, hm, rfl⟩ := h
    obtain ⟨h1, h2⟩ := litBools_ok hG ps 0 m hm
    refine ⟨m.map Value.bool, h1, rfl, by simp [Cont.sz, h1], rfl, fun rs hr => ?_⟩
    rw [h2]
    simpa [Cont.sz] using fill_one (m.map Value.bool) 0 [] rs (by intro u hu; obtain ⟨b, _, rfl⟩ := List.mem_map.1 hu; rfl) rfl (by simp [Cont.sz] at hr; simp [hr, h1])
  | pts l =>
    simp only [litCont, Option.map_eq_some_iff] at h
    obtain ⟨m, hm, rfl⟩ := h
    obtain ⟨h1, h2⟩ := litPts_ok hG ps 0 m hm
    refine ⟨ptCells m, h1, rfl, by rw [ptCells_length, h1]; rfl, rfl, fun rs hr => ?_⟩
    rw [h2]
    simpa [Cont.sz] using fill_two m 0 [] rs rfl (by simp [Cont.sz] at hr; simp [hr, h1])
  | intss l =>
    simp only [litCont, Option.map_eq_some_iff] at h
    obtain ⟨m, hm, rfl⟩ := h
    obtain ⟨us, h0, h1, h2, h3⟩ := litIntss_ok hG ps 0 m hm
    have hus : ∀ u ∈ us, u.cells = #[u] := idxd_cells fun j u hu => by
      have hj : j < us.length := (List.getElem?_eq_some_iff.1 hu).1
      exact reads_cells (h3 j u _ hu (List.getElem?_eq_getElem (by omega)))
    refine ⟨us, h1, rfl, by simp [Cont.sz, h0], ⟨by omega, fun j u n hu hn => reads_flat (h3 j u n hu hn) 1 _ rfl rfl fun ys hy => hy⟩, fun rs hr => ?_⟩
    rw [h2]
    simpa [Cont.sz] using fill_one us 0 [] rs hus rfl (by simp [Cont.sz] at hr; omega)
  | ptss l =>
    simp only [litCont, Option.map_eq_some_iff] at h
    obtain ⟨m, hm, rfl⟩ := h
    obtain ⟨us, h0, h1, h2, h3⟩ := litPtss_ok hG ps 0 m hm
    have hus : ∀ u ∈ us, u.cells = #[u] := idxd_cells fun j u hu => by
      have hj : j < us.length := (List.getElem?_eq_some_iff.1 hu).1
      exact reads_cells (h3 j u _ hu (List.getElem?_eq_getElem (by omega)))
    refine ⟨us, h1, rfl, by simp [Cont.sz, h0], ⟨by omega, fun j u n hu hn => reads_flat (h3 j u n hu hn) 2 _ rfl rfl fun ys hy => hy⟩, fun rs hr => ?_⟩
    rw [h2]
    simpa [Cont.sz] using fill_one us 0 [] rs hus rfl (by simp [Cont.sz] at hr; omega)
  | boolss l =>
    simp only [litCont, Option.map_eq_some_iff] at h
    obtain ⟨m, hm, rfl⟩ := h
    obtain ⟨us, h0, h1, h2, h3⟩ := litBoolss_ok hG ps 0 m hm
    have hus : ∀ u ∈ us, u.cells = #[u] := idxd_cells fun j u hu => by
      have hj : j < us.length := (List.getElem?_eq_some_iff.1 hu).1
      exact reads_cells (h3 j u _ hu (List.getElem?_eq_getElem (by omega)))
    refine ⟨us, h1, rfl, by simp [Cont.sz, h0], ⟨by omega, fun j u n hu hn => reads_flat (h3 j u n hu hn) 1 _ rfl rfl fun ys hy => hy⟩, fun rs hr => ?_⟩
    rw [h2]
    simpa [Cont.sz] using fill_one us 0 [] rs hus rfl (by simp [Cont.sz] at hr; omega)
theorem rep_cells {L : Nat → Prop} (c : Cont) (n : Int) (h0 : 0 ≤ n) : (repCont n c).len = n.toNat ∧ (repCont n c).sz = c.sz ∧ CellsOK L w (List.replicate (n.toNat * c.sz) c.fillV) (repCont n c) := by
  have hnil : ∀ sz, Flat L w (.slice none 0 0) sz 0 [] := fun sz => ⟨none, 0, rfl, Nat.le_refl _, by unfold maxLen; omega, by simp, fun h => by omega⟩
  cases c with
  | ints l => simp [repCont, Cont.len, Cont.sz, CellsOK, irep, Cont.fillV]
  | bools l => simp [repCont, Cont.len, Cont.sz, CellsOK, irep, Cont.fillV]
  | pts l =>
    refine ⟨by simp [repCont, Cont.len, irep], rfl, ?_⟩
    show List.replicate (n.toNat * 2) (Value.int .i64 0) = ptCells (irep n (0, 0))
    unfold irep
    generalize n.toNat = m
    induction m with
    | zero => rfl
    | succ m ih =>
      rw [show (m + 1) * 2 = m * 2 + 1 + 1 by omega, List.replicate_succ, List.replicate_succ, List.replicate_succ]
      simp only [ptCells, List.flatMap_cons] at ih ⊢
      rw [← ih]; rfl
  | intss l =>
    refine ⟨by simp [repCont, Cont.len, irep], rfl, by simp [repCont, irep, Cont.sz], fun j u m hu hm => ?_⟩
    simp only [irep, List.getElem?_replicate] at hu hm
    split at hu <;> split at hm <;> simp_all
    subst hu hm
    exact hnil 1
  | ptss l =>
    refine ⟨by simp [repCont, Cont.len, irep], rfl, by simp [repCont, irep, Cont.sz], fun j u m hu hm => ?_⟩
    simp only [irep, List.getElem?_replicate] at hu hm
    split at hu <;> split at hm <;> simp_all
    subst hu hm
    exact hnil 2
  | boolss l =>
    refine ⟨by simp [repCont, Cont.len, irep], rfl, by simp [repCont, irep, Cont.sz], fun j u m hu hm => ?_⟩
    simp only [irep, List.getElem?_replicate] at hu hm
    split at hu <;> split at hm <;> simp_all
    subst hu hm
    exact hnil 1
theorem aBS_ok {id n : Nat} {t e : TypeId} {c c' : Cont} (ps : Array (Nat × Operand)) (hb : base ≤ w.heap.size) (ht : tyOf t = some (.sl e c)) (hl : ps.toList.length = n) (hn : n ≤ 1000) (hc : litCont G ps.toList c = some c') (hG : ∀ x, (G x).has E w (a.eval x))
    (hq : AOut base E w id (.row e c') false a ⟨dst, .buildSlice t n ps, ty, pos, af, none⟩ K) : Oper.wp Try.prog ⟨dst, .buildSlice t n ps, ty, pos, af, none⟩ a w K Q := by
  obtain ⟨us, h1, h2, h3, h4, h5⟩ := litCont_ok hG ps.toList c c' hc
  have := run_bs (w := w) ht n hn (ps.map fun x => (x.1, a.eval x.2)) us (fun rs hr => by simpa using h5 rs (by rw [hr, hl]))
  refine wp_run (w' := w.alloc (.cells us.toArray e)) (v := .slice (some ⟨w.heap.size, 0, none⟩) n n) ?_ (lit_out hb (by rw [h1, hl]) hn (by rw [h3, hl, h2]) h4 hq)
  unfold execOp
  generalize a.eval = ρ at *
  simp [this]
theorem madeCells_rep (c : Cont) (z : Array Value) (m : Nat) (hz : ∀ v ∈ z.toList, v = c.fillV) (h0 : 0 < z.size) : (madeCells z m).toList = List.replicate m c.fillV := by
  apply List.ext_getElem?
  intro j
  by_cases hj : j < m
  · simp only [madeCells, Array.toList_map, Array.toList_range, List.getElem?_map, List.getElem?_range hj, Option.map_some, List.getElem?_replicate, if_pos hj]
    have hlt : j % z.size < z.size := Nat.mod_lt _ h0
    rw [getElem!_pos z (j % z.size) hlt]
    rw [hz _ (Array.getElem_mem_toList hlt)]
  · rw [List.getElem?_eq_none (by simp [madeCells]; omega), List.getElem?_eq_none (by simp; omega)]
theorem aMake_ok {id : Nat} {t e : TypeId} {c : Cont} {x y : Operand} {n m : Int} (hb : base ≤ w.heap.size) (ht : tyOf t = some (.sl e c)) (hx : a.eval x = .int .i64 n) (hy : a.eval y = .int .i64 m) (h0 : 0 ≤ n) (h1 : n ≤ 100000000) (hnm : n = m)
    (hq : AOut base E w id (.row e (repCont n c)) false a ⟨dst, .makeSlice t x y, ty, pos, af, none⟩ K) : Oper.wp Try.prog ⟨dst, .makeSlice t x y, ty, pos, af, none⟩ a w K Q := by
  subst hnm
  obtain ⟨hu, _, i, z, hi, hs, hby, hz, hzs, hza⟩ := ty_sl ht
  obtain ⟨k, rfl⟩ := Int.eq_ofNat_of_zero_le h0
  have hbk : i.bytes * k ≤ 281474976710656 := Nat.le_trans (Nat.mul_le_mul_right k hby) (by omega)
  have hk : k ≤ maxLen := by unfold maxLen; omega
  obtain ⟨w', hr, ho, hg⟩ := run_make_full (P := Try.prog) w base t e i z c.sz hu hi hz hs .i64 .i64 k hbk hk hb
  have hsz : 0 < z.cells.size := by rw [hzs]; cases c <;> simp [Cont.sz]
  rw [madeCells_rep c z.cells _ hza hsz] at ho
  obtain ⟨q1, q2, q3⟩ := rep_cells (L := (E.new id (.slice (some ⟨w.heap.size, 0, none⟩) k k)).lv) (w := w') c (k : Int) h0
  simp only [Int.toNat_natCast] at q1 q3
  refine wp_run (w' := w') (v := .slice (some ⟨w.heap.size, 0, none⟩) k k) ?_ (hq _ w' hg ⟨_, by rw [q1, q2]; exact ho, q3⟩ ?_ (fun b hb => by simp only [blk, Option.some.injEq] at hb; omega))
  · unfold execOp
    generalize a.eval = ρ at *
    simp [hx, hy, hr]
  · show _ = _
    rw [new_hd_self]
theorem aCall_ok {id : Nat} {f : FuncId} {args : Array Operand} {ats : Array TypeId} {avs : List AV} {e : TypeId} {c : Cont} (hsig : SigOK sig) (hb : base ≤ w.heap.size) (hM : MemOK base E w B) (hav : cvAs B G args.toList = some avs) (hsg : sig f avs = some ⟨p, [.nrow e c]⟩) (hfr : (frAs G args.toList || !c.nest) = true) (hp : p)
    (hG : ∀ x, (G x).has E w (a.eval x)) (hq : AOut base E w id (.row e c) false a ⟨dst, .call ⟨.value (.func f), args, ats⟩, ty, pos, af, none⟩ K) :
    Oper.wp Try.prog ⟨dst, .call ⟨.value (.func f), args, ats⟩, ty, pos, af, none⟩ a w K Q := by
  have hA := cvAs_ok (fr := frAs G args.toList) hM (fun h => h) (fun x _ => hG x) hav
  obtain ⟨e1, e2⟩ := hsig f avs _ hsg hp (LF (frAs G args.toList) E) (args.map a.eval) w ⟨fun b hb => hM.lt.lt' b hb.2, hM.lt.inv⟩ (by rw [Array.toList_map]; exact hA)
  unfold Oper.wp
  rw [show execOp a.eval _ = callFunc f (#[] ++ args.map a.eval ++ #[]) from rfl]
  rw [Array.empty_append, Array.append_empty, e1]
  show Calls Try.prog f (args.map a.eval) w _
  refine e2.mono ?_
  rintro _ w' ⟨v, rfl, hv, hbl⟩
  have hv' : Owned w.heap.size (fun b => LF (frAs G args.toList) E b ∨ blk v = some b) w' v e c := hv
  have hlt : ∀ b, blk v = some b → w.heap.size ≤ b := fun b hb => (hv'.lt hb).1
  refine hq v w' (bel_grown hbl) ?_ ?_ hlt
  · obtain ⟨xs, h1, h2⟩ := hv'
    refine ⟨xs, ⟨h1.1, ?_⟩, ?_⟩
    · rcases h1.2 with h | ⟨g, cap, cur, q1, q2, q3⟩
      · exact .inl h
      · exact .inr ⟨g, cap, cur, q1, Nat.le_trans hb q2, q3⟩
    · by_cases hn : c.nest = false
      · exact h2.any hn
      · have hf : frAs G args.toList = true := by
          cases hx : c.nest with
          | false => exact absurd hx hn
          | true => simpa [hx] using hfr
        refine h2.less ?_
        intro b hl
        rcases hl with hl | hl
        · exact .inl ⟨hf, hl⟩
        · exact .inr hl
  · show _ = _
    rw [new_hd_self]
theorem free_new {L : Nat → Prop} {v u : Value} {s : SV} {id : Nat} {w' : World} (hf : s.free = true) (hL : ∀ b, E.lv b ∨ blk v = some b → L b) (h : s.has (EL L) w' u) : s.has (E.new id v) w' u := by
  cases s <;> simp [SV.free] at hf <;> first | exact h | exact Reads.less (L' := (E.new id v).lv) h hL | exact BytesOK.less (L' := (E.new id v).lv) h hL | exact BytesL.less (L' := (E.new id v).lv) h hL | exact ByteP.less (L' := (E.new id v).lv) h hL
theorem free_newL {L : Nat → Prop} {v : Value} {id : Nat} {w' : World} (hL : ∀ b, E.lv b ∨ blk v = some b → L b) : ∀ {l : List SV} {vs : List Value}, l.all (·.free) = true → hasL (EL L) w' vs l → hasL (E.new id v) w' vs l
  | [], [], _, _ => trivial
  | [], _ :: _, _, h => h.elim
  | _ :: _, [], _, h => h.elim
  | s :: l, u :: vs, hf, h => by
    simp only [List.all_cons, Bool.and_eq_true] at hf
    exact ⟨free_new hf.1 hL h.1, free_newL hL hf.2 h.2⟩
theorem aCallB_ok {id : Nat} {f : FuncId} {args : Array Operand} {ats : Array TypeId} {avs : List AV} {l : List SV} (hsig : SigOK sig) (hb : base ≤ w.heap.size) (hM : MemOK base E w B) (hav : cvAs B G args.toList = some avs) (hsg : sig f avs = some ⟨p, [.nbox l]⟩) (hfr : frAs G args.toList = true) (hl : l.all (·.free) = true) (hp : p)
    (hG : ∀ x, (G x).has E w (a.eval x)) (hq : AOut base E w id (.box l) true a ⟨dst, .call ⟨.value (.func f), args, ats⟩, ty, pos, af, none⟩ K) :
    Oper.wp Try.prog ⟨dst, .call ⟨.value (.func f), args, ats⟩, ty, pos, af, none⟩ a w K Q := by
  have hA := cvAs_ok (fr := frAs G args.toList) hM (fun h => h) (fun x _ => hG x) hav
  obtain ⟨e1, e2⟩ := hsig f avs _ hsg hp (LF (frAs G args.toList) E) (args.map a.eval) w ⟨fun b hb => hM.lt.lt' b hb.2, hM.lt.inv⟩ (by rw [Array.toList_map]; exact hA)
  unfold Oper.wp
  rw [show execOp a.eval _ = callFunc f (#[] ++ args.map a.eval ++ #[]) from rfl]
  rw [Array.empty_append, Array.append_empty, e1]
  show Calls Try.prog f (args.map a.eval) w _
  refine e2.mono ?_
  rintro _ w' ⟨v, rfl, hv, hbl⟩
  obtain ⟨g, cs, e, q1, q2, q3, q4⟩ := hv
  subst q1
  refine hq _ w' (bel_grown hbl) ⟨g, cs, e, rfl, Nat.le_trans hb q2, q3, free_newL (fun b hb' => ?_) hl q4⟩ ?_ (fun b hb' => by simp only [blk, Option.some.injEq] at hb'; omega)
  · rcases hb' with hb' | hb'
    · exact .inl ⟨hfr, hb'⟩
    · exact .inr hb'
  · show _ = _
    rw [new_hd_self]
    rfl
/-- All of them. -/
theorem aOp_ok {id : Nat} (hsig : SigOK sig) (o : Oper) (hg : o.guard = none) (hb : base ≤ w.heap.size) (hM : MemOK base E w B) (h : aOp sig B G o.type o.op = some (p, bx, pt)) (hp : p) (hG : ∀ x, (G x).has E w (a.eval x)) (hid : ∀ x, (G x).on id = false)
    (hq : AOut base E w id bx pt a o K) : o.wp Try.prog a w K Q := by
  obtain ⟨dst, op, ty, pos, af, gd⟩ := o
  simp only at hg h
  subst hg
  unfold aOp at h
  split at h
  · rename_i x
    split at h
    · rename_i e c hx ht
      injection h with h; injection h with h1 h2; injection h2 with h2 h3; subst h1 h2 h3
      have := hG x
      rw [hx] at this
      have ex : a.eval x = .slice none 0 0 := this
      exact wp_run (w' := w) (v := a.eval x) rfl (by rw [ex]; exact aNil_out ht hq)
    · cases h
  · rename_i x
    split at h
    · rename_i e c hx ht
      injection h with h; injection h with h1 h2; injection h2 with h2 h3; subst h1 h2 h3
      have := hG x
      rw [hx] at this
      have ex : a.eval x = .slice none 0 0 := this
      exact wp_run (w' := w) (v := a.eval x) rfl (by rw [ex]; exact aNil_out ht hq)
    · cases h
  · split at h
    · rename_i z ht
      injection h with h; injection h with h1 h2; injection h2 with h2 h3; subst h1 h2 h3
      exact aAlloc_ok _ _ _ _ hb ht hq
    · cases h
  · rename_i e x
    split at h
    · rename_i z l ht hx
      injection h with h; injection h with h1 h2; injection h2 with h2 h3; subst h1 h2 h3
      have h1 := hG x
      have h2 := hid x
      rw [hx] at h1 h2
      refine aBox_ok _ _ _ _ hb h1 (fun s hs => ?_) hq
      have h3 := List.any_eq_false.1 h2 s hs
      simpa using h3
    · cases h
  · rename_i t n ps
    split at h
    · rename_i e c ht
      split at h
      · rename_i hk
        simp only [Bool.and_eq_true, beq_iff_eq] at hk
        split at h
        · rename_i c' hc
          injection h with h; injection h with h1 h2; injection h2 with h2 h3; subst h1 h2 h3
          exact aBS_ok _ _ _ _ ps hb ht hk.1 (Nat.le_of_ble_eq_true hk.2) hc hG hq
        · cases h
      · cases h
    · cases h
  · rename_i t x y
    split at h
    · rename_i e c n m ht hx hy
      injection h with h; injection h with h1 h2; injection h2 with h2 h3; subst h1 h2 h3
      have h1 := hG x
      have h2 := hG y
      rw [hx] at h1
      rw [hy] at h2
      have hnm : n = m := by have := hp.2.2; unfold NIs ieq at this; simpa using this
      exact aMake_ok _ _ _ _ hb ht h1 h2 hp.1.out hp.2.1.out hnm hq
    · cases h
  · rename_i f args ats
    split at h
    · rename_i avs hav
      split at h
      · rename_i p' e c hsg
        split at h
        · rename_i hfr
          injection h with h; injection h with h1 h2; injection h2 with h2 h3; subst h1 h2 h3
          exact aCall_ok _ _ _ _ hsig hb hM hav hsg hfr hp hG hq
        · cases h
      · rename_i p' l hsg
        split at h
        · rename_i hfr
          rw [Bool.and_eq_true] at hfr
          injection h with h; injection h with h1 h2; injection h2 with h2 h3; subst h1 h2 h3
          exact aCallB_ok _ _ _ _ hsig hb hM hav hsg hfr.1 hfr.2 hp hG hq
        · cases h
      · cases h
    · cases h
  · cases h
/-- .. and, under a guard, new memory that is never written is read as any other. -/
def qOp2 (sig : FuncId → List AV → Option Sg) (B : Nat → Option Bx) (G : Operand → FV) (ty : TypeId) (op : Op) : Option (Prop × FV) :=
  match qOp sig B G op with
  | some r => some r
  | none => match aOp sig B G ty op with
    | some (p, .row _ c, false) => some (p, .v (.s (.view c)))
    | _ => none
theorem qOp2_ok {id : Nat} {r : FV} (hsig : SigOK sig) (o : Oper) (hg : o.guard = none) (hb : base ≤ w.heap.size) (hM : MemOK base E w B) (h : qOp2 sig B G o.type o.op = some (p, r)) (hp : p) (hG : ∀ x, (G x).has E w (a.eval x)) (hid : ∀ x, (G x).on id = false)
    (hq : QOut E w r a o K) : o.wp Try.prog a w K Q := by
  unfold qOp2 at h
  split at h
  · rename_i r' hop
    injection h with h; subst h
    exact qOp_ok hsig o hg hM hop hp hG hq
  · split at h
    · rename_i p' e c hop
      injection h with h; injection h with h1 h2; subst h1 h2
      refine aOp_ok (id := id) hsig o hg hb hM hop hp hG hid ?_
      intro v w' hgr hbx _ hfr
      obtain ⟨xs, h1, h2⟩ := hbx
      refine hq v w' ⟨xs, Owned.flat h1 (fun b hb' hl => ?_), h2.less (fun b hl => .inl hl)⟩ hgr
      have := hfr b hb'
      have := hM.lt b hl
      omega
    · cases h
end
end Go.Proofs.Ytdpokkegkedlfaa
