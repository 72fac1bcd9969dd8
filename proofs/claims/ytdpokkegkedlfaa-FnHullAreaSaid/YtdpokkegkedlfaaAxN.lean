/- Drawn regions in which callees write: one order stands for all. -/
import Derived.Test.YtdpokkegkedlfaaAx13
namespace Go.Proofs.Ytdpokkegkedlfaa
open Go.RowKit
set_option maxRecDepth 10000
def readyB (o : Oper) (done : List Nat) : Bool := o.after.toList.all fun e => !Region.binds .any e || memN e.on done
def allD (m : Nat) (done : List Nat) : Bool := (List.range m).all fun i => memN i done
def anyStep (one : Nat → Oper → Prop) (done : List Nat) : List Oper → Nat → Prop
  | [], _ => True
  | o :: l, i => match memN i done || !readyB o done with
    | true => anyStep one done l (i + 1)
    | false => one i o ∧ anyStep one done l (i + 1)
/-- A short region in each of its orders. -/
def findG (s : Nat) : List (Nat × Bool) → Option Bool
  | [] => none
  | (k, v) :: l => match k == s with
    | true => some v
    | false => findG s l
def evGd1 (sig : FuncId → List AV → Option Sg) (xs : XS) (N : Nat) (ops : List Oper) (G : List (Nat × Bool)) (o : Oper) (σ : St) (K : List (Nat × Bool) → St → Prop) : Prop := match o.guard with
  | none => evOp1 sig xs N o [] [] σ fun σ' _ _ => K G σ'
  | some (j, b) => match gdst ops j with
    | some s => (match lookT σ.t s with
      | .s (.bool c) => (match findG s G with
        | some v => (okDst N o.dst) = true ∧ c = v ∧ (match v == b with
          | true => evOp1 sig xs N ⟨o.dst, o.op, o.type, o.pos, o.after, none⟩ [] [] σ fun σ' _ _ => K G σ'
          | false => K G (putTop σ o.dst))
        | none => (okDst N o.dst) = true ∧ (c = b → evOp1 sig xs N ⟨o.dst, o.op, o.type, o.pos, o.after, none⟩ [] [] (σ.put s (.s (.bool b))) fun σ' _ _ => K ((s, b) :: G) σ') ∧ (c = !b → K ((s, !b) :: G) (putTop (σ.put s (.s (.bool (!b)))) o.dst)))
      | _ => False)
    | none => False
def evAny (sig : FuncId → List AV → Option Sg) (xs : XS) (N : Nat) (ops : List Oper) : Nat → List (Nat × Bool) → List Nat → St → (St → Prop) → Prop
  | 0, _, done, σ, k => match allD ops.length done with
    | true => k σ
    | false => False
  | n + 1, G, done, σ, k => match allD ops.length done with
    | true => k σ
    | false => anyStep (fun i o => evGd1 sig xs N ops G o σ fun G' σ' => evAny sig xs N ops n G' (i :: done) σ' k) done ops 0
def entW : List Oper → List Ent → List Ent
  | [], W => W
  | o :: l, W => entW l (W ++ [⟨[], topFV, none, dpOf W o.after.toList⟩])
def cutW : List Ent → Nat → Nat → Nat
  | [], _, m => m
  | e :: l, k, m => match e.dp == 2 ^ k - 1 with
    | true => cutW l (k + 1) m
    | false => cutW l (k + 1) (k + 1)
/-- Whether the operation may go ahead of all the others. -/
def apB (i d t : Nat) : List Oper → Nat → Bool
  | [], _ => true
  | o :: l, j => (j == i || hasAft o.after.toList i || lkB d o && (match o.dst with
      | some e => !(e == d) && !(e == t)
      | none => true)) && apB i d t l (j + 1)
where
  lkB (d : Nat) (o : Oper) : Bool := match o.guard with
    | some _ => false
    | none => o.op.operands.toList.all fun x => match x with
      | .tmp s => !(s == d)
      | _ => true
def lzOf (N : Nat) (ops : List Oper) : List Oper → Nat → List (Nat × Nat × Nat)
  | [], _ => []
  | o :: l, i => match o.guard with
    | some _ => lzOf N ops l (i + 1)
    | none => match o.dst with
      | none => lzOf N ops l (i + 1)
      | some d => match o.op with
        | .move (.tmp t) => (match o.after.toList with
          | [] => (match Nat.blt d N && apB i d t ops 0 with
            | true => (i, d, t) :: lzOf N ops l (i + 1)
            | false => lzOf N ops l (i + 1))
          | _ :: _ => lzOf N ops l (i + 1))
        | _ => lzOf N ops l (i + 1)
def putM : List (Nat × Nat × Nat) → St → St
  | [], σ => σ
  | (_, d, t) :: M, σ => putM M (σ.put d (lookT σ.t t))
def idxM : List (Nat × Nat × Nat) → List Nat
  | [] => []
  | (i, _, _) :: M => i :: idxM M
def noSel : List Oper → Bool
  | [] => true
  | o :: l => (match o.op with
    | .select _ _ => false
    | _ => true) && noSel l
def evLz (sig : FuncId → List AV → Option Sg) (xs : XS) (N : Nat) (ops : List Oper) (M : List (Nat × Nat × Nat)) (σ : St) (k : St → Prop) : Prop :=
  (acyc ops 0 && noSel ops) = true ∧ evAny sig xs N ops ops.length [] (idxM M) (putM M σ) k
/-- Memory that is written, or new: from the first number on all, and those listed behind it. -/
def memJ (k : Nat) : List Nat → Bool
  | [] => false
  | n :: l => Nat.ble n k || memN k l
def bxJ (js : List Nat) (σ : St) (k : Nat) : Option Bx := if memJ k js then none else lookB σ.b k
/-- What an operation reads: of what the region makes only that for which it waits. -/
def gL (σ : St) (pre : List Oper) (af : List Edge) : Operand → FV
  | .tmp t => match dIdx pre t with
    | none => .v (lookT σ.t t)
    | some j => if hasAft af j then .v (lookT σ.t t) else topFV
  | .const v => constFV v
  | .func f => .v (.s (.x (.func (.func f) #[] #[])))
  | .global _ => topFV
def rootA (σ : St) (pre : List Oper) (t : Nat) : AV := match dIdx pre t with
  | none => lookT σ.t t
  | some j => match pre[j]? with
    | some o => (match o.op with
      | .move (.tmp s) => (match dIdx pre s with
        | none => lookT σ.t s
        | some _ => .s .top)
      | _ => .s .top)
    | none => .s .top
def boxX (σ : St) (pre : List Oper) (o : Oper) : Option Nat := match o.op with
  | .call ⟨.value (.func _), args, _⟩ => (match args.toList with
    | .tmp t :: _ => (match rootA σ pre t with
      | .s (.ptr j 0) => some j
      | _ => none)
    | _ => none)
  | _ => none
def fxX (σ : St) (pre : List Oper) (o : Oper) : Bool := match o.op with
  | .store _ _ _ => true
  | .alloc _ => true
  | _ => match boxX σ pre o with
    | some _ => true
    | none => false
def jsX (σ : St) (pre : List Oper) : List Oper → List Nat
  | [] => []
  | o :: l => match o.op with
    | .store _ (.tmp t) _ => (match rootA σ pre t with
      | .s (.ptr j _) => j :: jsX σ pre l
      | _ => jsX σ pre l)
    | _ => match boxX σ pre o with
      | some j => j :: jsX σ pre l
      | none => jsX σ pre l
def ev1L (sig : FuncId → List AV → Option Sg) (xs : XS) (N : Nat) (pre : List Oper) (js : List Nat) (x : Bool) (o : Oper) (σ : St) (K : St → Prop) : Prop :=
  match o.guard with
  | some _ => False
  | none => match x with
    | true => (match o.dst with
      | some d => (match o.op with
        | .alloc t => (match tyOf t with
          | some (.st z) => (Nat.blt d N && memJ σ.n js && Bx.idsOK (fun j => Nat.blt j σ.n) (.box z)) = true ∧ K ⟨(d, .s (.ptr σ.n 0)) :: σ.t, (σ.n, .box z) :: σ.b, σ.n + 1⟩
          | _ => False)
        | _ => match xOp xs σ o.op with
        | some (i, sg) => (Nat.blt d N && memJ i js) = true ∧ sg.need ∧ allG sg.kinds fun g => sg.post g → match sg.ret g with
          | [rv] => (match rvA true rv with
            | some av => K ⟨(d, av) :: σ.t, (i, sg.out g) :: σ.b, σ.n⟩
            | none => False)
          | _ => False
        | none => False)
      | none => (match o.op with
        | .store t p v => (match gS σ p with
          | .v (.s (.ptr j _)) => (match mStore σ t (gS σ p) (gS σ v) with
            | some (q, σ') => memJ j js = true ∧ q ∧ K σ'
            | none => False)
          | _ => False)
        | _ => False))
    | false => (match o.dst with
      | some d => (match qOp2 sig (bxJ js σ) (gL σ pre o.after.toList) o.type o.op with
        | some (p, .v av) => (Nat.blt d N && av.idsOK (fun k => Nat.blt k σ.n)) = true ∧ p ∧ K (σ.put d av)
        | _ => False)
      | none => False)
def evLin (sig : FuncId → List AV → Option Sg) (xs : XS) (N : Nat) (pre : List Oper) (js : List Nat) (fx : Oper → Bool) : List Nat → St → (St → Prop) → Prop
  | [], σ, k => k σ
  | i :: c, σ, k => match pre[i]? with
    | some o => ev1L sig xs N pre js (fx o) o σ fun σ' => evLin sig xs N pre js fx c σ' k
    | none => False
def rdyAt (f : Oper → Bool) (done : List Nat) : List Oper → Nat → Option Nat
  | [], _ => none
  | o :: l, i => match !memN i done && f o && readyB o done with
    | true => some i
    | false => rdyAt f done l (i + 1)
def linO (fx : Oper → Bool) (pre : List Oper) : Nat → List Nat → List Nat
  | 0, _ => []
  | n + 1, done => match rdyAt (fun o => !fx o) done pre 0 with
    | some i => i :: linO fx pre n (i :: done)
    | none => match rdyAt fx done pre 0 with
      | some i => i :: linO fx pre n (i :: done)
      | none => []
def argA (pre : List Oper) (af : List Edge) : Operand → Bool
  | .tmp t => (match dIdx pre t with
    | none => true
    | some j => hasAft af j)
  | _ => true
def argsA (pre : List Oper) (af : List Edge) : Op → Bool
  | .call ⟨_, args, _⟩ => args.toList.all (argA pre af)
  | .store _ p v => argA pre af p && argA pre af v
  | .alloc _ => true
  | _ => false
def fxAt (fx : Oper → Bool) (pre : List Oper) (i : Nat) : Bool := match pre[i]? with
  | some o => fx o
  | none => true
def bitW (W : List Ent) (i a : Nat) : Bool := match W[i]? with
  | some e => e.dp.testBit a
  | none => false
def okLin1 (fx : Oper → Bool) (W : List Ent) (pre : List Oper) (bef : List Nat) (i : Nat) : Bool :=
  !memN i bef && (match pre[i]? with
    | some o => readyB o bef && (match o.dst with
      | some d => dIdx pre d == some i
      | none => fx o) && (!fx o || argsA pre o.after.toList o.op) && bef.all fun a => !fxAt fx pre a || bitW W i a
    | none => false)
def okLin (fx : Oper → Bool) (W : List Ent) (pre : List Oper) : List Nat → List Nat → Bool
  | _, [] => true
  | bef, i :: c => okLin1 fx W pre bef i && okLin fx W pre (i :: bef) c
def evLinC (sig : FuncId → List AV → Option Sg) (xs : XS) (N : Nat) (ops pre : List Oper) (W : List Ent) (m : Nat) (js : List Nat) (fx : Oper → Bool) (c : List Nat) (σ : St) (k : St → Prop) : Prop :=
  (acyc ops 0 && Nat.ble m ops.length && fullB (W.take m) (ops.drop m) m && okLin fx W pre [] c && allD m c) = true ∧ evLin sig xs N pre js fx c σ fun σ' => evTail sig xs N ops (ops.drop m) [] [] σ' k
def evLinB (sig : FuncId → List AV → Option Sg) (xs : XS) (N : Nat) (ops pre : List Oper) (W : List Ent) (m : Nat) (σ : St) (k : St → Prop) : Prop :=
  evLinC sig xs N ops pre W m (σ.n :: jsX σ pre pre) (fxX σ pre) (linO (fxX σ pre) pre m []) σ k
def evLinA (sig : FuncId → List AV → Option Sg) (xs : XS) (N : Nat) (ops : List Oper) (W : List Ent) (m : Nat) (σ : St) (k : St → Prop) : Prop :=
  evLinB sig xs N ops (ops.take m) W m σ k
/-- The first operation that leaves nothing in a slot of its own. -/
def badI (pre : List Oper) : List Oper → Nat → Option Nat
  | [], _ => none
  | o :: l, i => match o.guard with
    | some _ => some i
    | none => match o.dst with
      | some d => (match dIdx pre d == some i with
        | true => badI pre l (i + 1)
        | false => some i)
      | none => (match o.op with
        | .store _ _ _ => badI pre l (i + 1)
        | _ => some i)
def coverB (W : List Ent) (m : Nat) : Bool := (W.drop m).all fun e => (2 ^ m - 1) &&& e.dp == 2 ^ m - 1
def cutM (W : List Ent) : Nat → Nat
  | 0 => 0
  | n + 1 => match coverB W (n + 1) with
    | true => n + 1
    | false => cutM W n
def evLinQ3 (sig : FuncId → List AV → Option Sg) (xs : XS) (N : Nat) (ops pre : List Oper) (W : List Ent) (m : Nat) (js : List Nat) (fx : Oper → Bool) (c : List Nat) (σ : St) (k : St → Prop) : Prop :=
  (acyc ops 0 && Nat.ble m ops.length && coverB W m && okLin fx W pre [] c && allD m c) = true ∧ evLin sig xs N pre js fx c σ fun σ' => evAny sig xs N ops ops.length [] (List.range m) σ' k
def evLinQ2 (sig : FuncId → List AV → Option Sg) (xs : XS) (N : Nat) (ops pre : List Oper) (W : List Ent) (m : Nat) (σ : St) (k : St → Prop) : Prop :=
  evLinQ3 sig xs N ops pre W m (σ.n :: jsX σ pre pre) (fxX σ pre) (linO (fxX σ pre) pre m []) σ k
def evLinQ (sig : FuncId → List AV → Option Sg) (xs : XS) (N : Nat) (ops : List Oper) (W : List Ent) (m : Nat) (σ : St) (k : St → Prop) : Prop :=
  evLinQ2 sig xs N ops (ops.take m) W m σ k
def evLinR (sig : FuncId → List AV → Option Sg) (xs : XS) (N : Nat) (ops : List Oper) (σ : St) (k : St → Prop) : Prop :=
  match badI (ops.take (cutW (entW ops []) 0 0)) (ops.take (cutW (entW ops []) 0 0)) 0 with
  | none => evLinA sig xs N ops (entW ops []) (cutW (entW ops []) 0 0) σ k
  | some i => evLinQ sig xs N ops (entW ops []) (cutM (entW ops []) i) σ k
/-- The rest of a region of which the quiet operations went first, in each of its orders. -/
def evAnyX (sig : FuncId → List AV → Option Sg) (xs : XS) (N : Nat) (pre : List Oper) (js : List Nat) : Nat → List Nat → St → (St → Prop) → Prop
  | 0, done, σ, k => match allD pre.length done with
    | true => k σ
    | false => False
  | n + 1, done, σ, k => match allD pre.length done with
    | true => k σ
    | false => anyStep (fun i o => ev1L sig xs N pre js true o σ fun σ' => evAnyX sig xs N pre js n (i :: done) σ' k) done pre 0
def hasAlloc : List Oper → Bool
  | [] => false
  | o :: l => match o.op with
    | .alloc _ => true
    | _ => hasAlloc l
def pureI (fx : Oper → Bool) : List Oper → Nat → List Nat
  | [], _ => []
  | o :: l, i => match fx o with
    | true => pureI fx l (i + 1)
    | false => i :: pureI fx l (i + 1)
def okFx1 (pre : List Oper) (fx : Oper → Bool) (c : List Nat) (o : Oper) (i : Nat) : Bool := match fx o with
  | true => !memN i c && argsA pre o.after.toList o.op && (match o.dst with
    | some d => dIdx pre d == some i
    | none => true)
  | false => memN i c
def okFx (pre : List Oper) (fx : Oper → Bool) (c : List Nat) : List Oper → Nat → Bool
  | [], _ => true
  | o :: l, i => okFx1 pre fx c o i && okFx pre fx c l (i + 1)
def evPF3 (sig : FuncId → List AV → Option Sg) (xs : XS) (N : Nat) (ops : List Oper) (js : List Nat) (fx : Oper → Bool) (c : List Nat) (σ : St) (k : St → Prop) : Prop :=
  (acyc ops 0 && okLin fx [] ops [] c && okFx ops fx c ops 0) = true ∧ evLin sig xs N ops js fx c σ fun σ' => evAnyX sig xs N ops js ops.length c σ' k
def evPF2 (sig : FuncId → List AV → Option Sg) (xs : XS) (N : Nat) (ops : List Oper) (fx : Oper → Bool) (σ : St) (k : St → Prop) : Prop :=
  evPF3 sig xs N ops (σ.n :: jsX σ ops ops) fx (pureI fx ops 0) σ k
def evPF (sig : FuncId → List AV → Option Sg) (xs : XS) (N : Nat) (ops : List Oper) (σ : St) (k : St → Prop) : Prop := evPF2 sig xs N ops (fxX σ ops) σ k
theorem allG_of : ∀ {l : List GK} {f : List GV → Prop}, (∀ g : List GV, g.map GV.kd = l → f g) → allG l f
  | [], f, h => h [] rfl
  | k :: l, f, h => by
    cases k <;> (intro n; exact allG_of fun g hg => h (_ :: g) (by simp [GV.kd, hg]))
/-- Two frames that tell the same. -/
def Eqv (σ σ' : St) : Prop := lookT σ.t = lookT σ'.t ∧ lookB σ.b = lookB σ'.b ∧ σ.n = σ'.n
def Inv (K : St → Prop) : Prop := ∀ σ σ', Eqv σ σ' → K σ → K σ'
theorem Eqv.refl (σ : St) : Eqv σ σ := ⟨rfl, rfl, rfl⟩
theorem Eqv.symm {σ σ' : St} (h : Eqv σ σ') : Eqv σ' σ := ⟨h.1.symm, h.2.1.symm, h.2.2.symm⟩
theorem Eqv.trans {σ σ' σ'' : St} (h : Eqv σ σ') (h' : Eqv σ' σ'') : Eqv σ σ'' := ⟨h.1.trans h'.1, h.2.1.trans h'.2.1, h.2.2.trans h'.2.2⟩
theorem lookT_cons (d : Nat) (av : AV) (t : List (Nat × AV)) : lookT ((d, av) :: t) = fun s => if d == s then av else lookT t s := rfl
theorem lookB_cons (d : Nat) (bx : Bx) (t : List (Nat × Bx)) : lookB ((d, bx) :: t) = fun s => if d == s then some bx else lookB t s := rfl
theorem Eqv.cons {σ σ' : St} (h : Eqv σ σ') (d : Nat) (av : AV) (j : Nat) (bx : Bx) : Eqv ⟨(d, av) :: σ.t, (j, bx) :: σ.b, σ.n⟩ ⟨(d, av) :: σ'.t, (j, bx) :: σ'.b, σ'.n⟩ :=
  ⟨by simp only [lookT_cons, h.1], by simp only [lookB_cons, h.2.1], h.2.2⟩
theorem Eqv.put {σ σ' : St} (h : Eqv σ σ') (d : Nat) (av : AV) : Eqv (σ.put d av) (σ'.put d av) :=
  ⟨by simp only [St.put, lookT_cons, h.1], h.2.1, h.2.2⟩
theorem swapT {d e : Nat} (hde : d ≠ e) (x y : AV) (t : List (Nat × AV)) : lookT ((d, x) :: (e, y) :: t) = lookT ((e, y) :: (d, x) :: t) := by
  funext s
  simp only [lookT]
  by_cases h1 : d = s <;> by_cases h2 : e = s
  · exact absurd (h1.trans h2.symm) hde
  · subst h1; simp [h2]
  · subst h2; simp [h1]
  · simp [h1, h2]
theorem mSt_ptr {σ σ' : St} {t : TypeId} {j o : Nat} {g : FV} {q : Prop} (h : mStore σ t (.v (.s (.ptr j o))) g = some (q, σ')) : ∃ bx, σ' = σ.setB j bx ∧ ∀ τ : St, lookB τ.b = lookB σ.b → mStore τ t (.v (.s (.ptr j o))) g = some (q, τ.setB j bx) := by
  have hr : ∀ τ : St, lookB τ.b = lookB σ.b → rowOK τ = rowOK σ := fun τ hτ => by
    funext s
    cases s <;> simp [rowOK, hτ]
  unfold mStore at h
  split at h
  · rename_i e
    injection e with e; injection e with e; injection e with e1 e2; subst e1 e2
    unfold mStAgg at h
    split at h
    · rename_i l z hb ht
      split at h
      · rename_i hk
        injection h with h; injection h with h1 h2; subst h1 h2
        refine ⟨_, rfl, fun τ hτ => ?_⟩
        simp only [mStore, mStAgg, hτ, hb, ht, hr τ hτ]
        rw [if_pos hk]
      · cases h
    · cases h
  · rename_i e
    injection e with e; injection e with e; injection e with e1 e2; subst e1 e2
    unfold mStOne at h
    split at h
    · rename_i l z hb ht
      split at h
      · rename_i hk
        injection h with h; injection h with h1 h2; subst h1 h2
        refine ⟨_, rfl, fun τ hτ => ?_⟩
        simp only [mStore, mStOne, hτ, hb, ht, hr τ hτ]
        rw [if_pos hk]
      · cases h
    · cases h
  · rename_i e; cases e
  · rename_i e; cases e
  · cases h
section
variable {sig : FuncId → List AV → Option Sg} {xs : XS} {N : Nat} {js : List Nat} {ops pre : List Oper} {σ σ' : St} {o : Oper} {K K' : St → Prop} {fx : Oper → Bool} {W : List Ent}
theorem ev1L_iff {x : Bool} : ev1L sig xs N pre js x o σ K ↔ o.guard = none ∧
    ((x = true ∧ ∃ d j sg, o.dst = some d ∧ d < N ∧ memJ j js = true ∧ xOp xs σ o.op = some (j, sg) ∧ sg.need ∧ ∀ g, g.map GV.kd = sg.kinds → sg.post g → ∃ rv av, sg.ret g = [rv] ∧ rvA true rv = some av ∧ K ⟨(d, av) :: σ.t, (j, sg.out g) :: σ.b, σ.n⟩) ∨
     (x = true ∧ o.dst = none ∧ ∃ t p v j off q bx, o.op = .store t p v ∧ gS σ p = .v (.s (.ptr j off)) ∧ mStore σ t (.v (.s (.ptr j off))) (gS σ v) = some (q, σ.setB j bx) ∧ memJ j js = true ∧ q ∧ K (σ.setB j bx)) ∨
     (x = true ∧ ∃ d t z, o.dst = some d ∧ d < N ∧ o.op = .alloc t ∧ tyOf t = some (.st z) ∧ memJ σ.n js = true ∧ Bx.idsOK (fun j => Nat.blt j σ.n) (.box z) = true ∧ K ⟨(d, .s (.ptr σ.n 0)) :: σ.t, (σ.n, .box z) :: σ.b, σ.n + 1⟩) ∨
     (x = false ∧ ∃ d p av, o.dst = some d ∧ d < N ∧ qOp2 sig (bxJ js σ) (gL σ pre o.after.toList) o.type o.op = some (p, .v av) ∧ av.idsOK (fun k => Nat.blt k σ.n) = true ∧ p ∧ K (σ.put d av))) := by
  constructor
  · intro h
    unfold ev1L at h
    split at h
    · exact h.elim
    · rename_i hg
      refine ⟨hg, ?_⟩
      cases x with
      | true =>
        simp only at h
        split at h
        · rename_i d hd
          split at h
          · rename_i t hop
            split at h
            · rename_i z hz
              obtain ⟨h1, h2⟩ := h
              simp only [Bool.and_eq_true] at h1
              exact .inr (.inr (.inl ⟨rfl, d, t, z, hd, blt_iff.1 h1.1.1, hop, hz, h1.1.2, h1.2, h2⟩))
            · exact h.elim
          split at h
          · rename_i i sg hx
            obtain ⟨h1, h2, h3⟩ := h
            simp only [Bool.and_eq_true] at h1
            refine .inl ⟨rfl, d, i, sg, hd, blt_iff.1 h1.1, h1.2, hx, h2, fun g hk hp => ?_⟩
            have h4 := allG_at h3 g hk hp
            split at h4
            · rename_i rv hr
              split at h4
              · rename_i av hav
                exact ⟨rv, av, hr, hav, h4⟩
              · exact h4.elim
            · exact h4.elim
          · exact h.elim
        · rename_i hd
          split at h
          · rename_i t p v hop
            split at h
            · rename_i j off hgp
              split at h
              · rename_i q s' hm
                rw [hgp] at hm
                obtain ⟨bx, e, _⟩ := mSt_ptr hm
                subst e
                exact .inr (.inl ⟨rfl, hd, t, p, v, j, off, q, bx, hop, hgp, hm, h.1, h.2.1, h.2.2⟩)
              · exact h.elim
            · exact h.elim
          · exact h.elim
      | false =>
        simp only at h
        split at h
        · rename_i d hd
          split at h
          · rename_i p av hq
            obtain ⟨h1, h2, h3⟩ := h
            simp only [Bool.and_eq_true] at h1
            exact .inr (.inr (.inr ⟨rfl, d, p, av, hd, blt_iff.1 h1.1, hq, h1.2, h2, h3⟩))
          · exact h.elim
        · exact h.elim
  · rintro ⟨hg, ⟨rfl, d, j, sg, hd, hN, hj, hx, h2, h3⟩ | ⟨rfl, hd, t, p, v, j, off, q, bx, hop, hgp, hm, hj, hq, hK⟩ | ⟨rfl, d, t, z, hd, hN, hop, hz, hj, hi, hK⟩ | ⟨rfl, d, p, av, hd, hN, hq, h1, h2, h3⟩⟩
    · unfold ev1L
      rw [hg]
      simp only
      rw [hd]
      simp only
      split
      · rename_i t hop; rw [hop] at hx; cases hx
      rw [hx]
      refine ⟨by simp [blt_iff.2 hN, hj], h2, allG_of fun g hk hp => ?_⟩
      obtain ⟨rv, av, e1, e2, e3⟩ := h3 g hk hp
      rw [e1]
      simp only
      rw [e2]
      exact e3
    · unfold ev1L
      rw [hg]
      simp only
      rw [hd]
      simp only
      rw [hop]
      simp only
      rw [hgp]
      simp only
      rw [hm]
      exact ⟨hj, hq, hK⟩
    · unfold ev1L
      rw [hg]
      simp only
      rw [hd]
      simp only
      rw [hop]
      simp only
      rw [hz]
      exact ⟨by rw [hj, hi, blt_iff.2 hN]; rfl, hK⟩
    · unfold ev1L
      rw [hg]
      simp only
      rw [hd]
      simp only
      rw [hq]
      exact ⟨by simp [blt_iff.2 hN, h1], h2, h3⟩
theorem ev1L_mono {x : Bool} (hK : ∀ s, K s → K' s) (h : ev1L sig xs N pre js x o σ K) : ev1L sig xs N pre js x o σ K' := by
  rw [ev1L_iff] at h ⊢
  obtain ⟨hg, ⟨rfl, d, j, sg, hd, hN, hj, hx, h2, h3⟩ | ⟨rfl, hd, t, p, v, j, off, q, bx, hop, hgp, hm, hj, hq, hk⟩ | ⟨rfl, d, t, z, hd, hN, hop, hz, hj, hi, hk⟩ | ⟨rfl, d, p, av, hd, hN, hq, h1, h2, h3⟩⟩ := h
  · exact ⟨hg, .inl ⟨rfl, d, j, sg, hd, hN, hj, hx, h2, fun g hk hp => by
      obtain ⟨rv, av, e1, e2, e3⟩ := h3 g hk hp
      exact ⟨rv, av, e1, e2, hK _ e3⟩⟩⟩
  · exact ⟨hg, .inr (.inl ⟨rfl, hd, t, p, v, j, off, q, bx, hop, hgp, hm, hj, hq, hK _ hk⟩)⟩
  · exact ⟨hg, .inr (.inr (.inl ⟨rfl, d, t, z, hd, hN, hop, hz, hj, hi, hK _ hk⟩))⟩
  · exact ⟨hg, .inr (.inr (.inr ⟨rfl, d, p, av, hd, hN, hq, h1, h2, hK _ h3⟩))⟩
theorem gS_eqv (h : Eqv σ σ') : gS σ = gS σ' := by
  funext x
  cases x <;> simp [gS, h.1]
theorem xOp_eqv (h : Eqv σ σ') (op : Op) : xOp xs σ op = xOp xs σ' op := by
  unfold xOp xArg
  rw [gS_eqv h, h.2.1]
theorem gL_eqv (h : Eqv σ σ') (af : List Edge) : gL σ pre af = gL σ' pre af := by
  funext x
  cases x <;> simp [gL, h.1]
theorem bxJ_eqv (h : Eqv σ σ') : bxJ js σ = bxJ js σ' := by
  funext k
  simp [bxJ, h.2.1]
theorem Eqv.setB {σ σ' : St} (h : Eqv σ σ') (j : Nat) (bx : Bx) : Eqv (σ.setB j bx) (σ'.setB j bx) :=
  ⟨h.1, by simp only [St.setB, lookB_cons, h.2.1], h.2.2⟩
theorem ev1L_eqv {x : Bool} (hK : Inv K) (he : Eqv σ σ') (h : ev1L sig xs N pre js x o σ K) : ev1L sig xs N pre js x o σ' K := by
  rw [ev1L_iff] at h ⊢
  obtain ⟨hg, ⟨rfl, d, j, sg, hd, hN, hj, hx, h2, h3⟩ | ⟨rfl, hd, t, p, v, j, off, q, bx, hop, hgp, hm, hj, hq, hk⟩ | ⟨rfl, d, t, z, hd, hN, hop, hz, hj, hi, hk⟩ | ⟨rfl, d, p, av, hd, hN, hq, h1, h2, h3⟩⟩ := h
  · exact ⟨hg, .inl ⟨rfl, d, j, sg, hd, hN, hj, by rw [← xOp_eqv he]; exact hx, h2, fun g hk hp => by
      obtain ⟨rv, av, e1, e2, e3⟩ := h3 g hk hp
      exact ⟨rv, av, e1, e2, hK _ _ (he.cons d av j _) e3⟩⟩⟩
  · obtain ⟨bx', e, hτ⟩ := mSt_ptr hm
    have hb := hτ σ' he.2.1.symm
    have hb0 : bx' = bx := by
      have := congrArg (fun s : St => s.b) e
      simp only [St.setB, List.cons.injEq, Prod.mk.injEq, true_and, and_true] at this
      exact this.symm
    subst hb0
    exact ⟨hg, .inr (.inl ⟨rfl, hd, t, p, v, j, off, q, bx', hop, by rw [← gS_eqv he]; exact hgp, by rw [← gS_eqv he]; exact hb, hj, hq, hK _ _ (he.setB j bx') hk⟩)⟩
  · rw [he.2.2] at hj hi hk
    exact ⟨hg, .inr (.inr (.inl ⟨rfl, d, t, z, hd, hN, hop, hz, hj, hi, hK ⟨(d, .s (.ptr σ'.n 0)) :: σ.t, (σ'.n, .box z) :: σ.b, σ'.n + 1⟩ _ ⟨by simp only [lookT_cons, he.1], by simp only [lookB_cons, he.2.1], rfl⟩ hk⟩))⟩
  · exact ⟨hg, .inr (.inr (.inr ⟨rfl, d, p, av, hd, hN, by rw [← bxJ_eqv he, ← gL_eqv he]; exact hq, by rw [← he.2.2]; exact h1, h2, hK _ _ (he.put d av) h3⟩))⟩
theorem evLin_inv (hK : Inv K) : ∀ c : List Nat, Inv fun σ => evLin sig xs N pre js fx c σ K
  | [], σ, σ', he, h => hK σ σ' he h
  | i :: c, σ, σ', he, h => by
    unfold evLin at h ⊢
    cases hp : pre[i]? with
    | none => rw [hp] at h; exact h.elim
    | some o => rw [hp] at h; exact ev1L_eqv (evLin_inv hK c) he h
theorem gL_put {d a : Nat} (hd : dIdx pre d = some a) {af : List Edge} (ha : hasAft af a = false) (v : AV) : gL (σ.put d v) pre af = gL σ pre af := by
  funext x
  cases x with
  | tmp t =>
    simp only [gL]
    by_cases ht : d = t
    · subst ht; rw [hd]; simp only; rw [ha]; rfl
    · have : lookT (σ.put d v).t t = lookT σ.t t := by
        show lookT ((d, v) :: σ.t) t = _
        simp [lookT, ht]
      rw [this]
  | _ => rfl
theorem gL_cons {d a : Nat} (hd : dIdx pre d = some a) {af : List Edge} (ha : hasAft af a = false) (v : AV) (b : List (Nat × Bx)) (n : Nat) : gL ⟨(d, v) :: σ.t, b, n⟩ pre af = gL σ pre af := by
  have h := gL_put (σ := σ) hd ha v
  rw [← h]
  funext x
  cases x <;> rfl
theorem gS_put {d a : Nat} (hd : dIdx pre d = some a) {af : List Edge} (ha : hasAft af a = false) (v : AV) {x : Operand} (hx : argA pre af x = true) : gS (σ.put d v) x = gS σ x := by
  cases x with
  | tmp t =>
    simp only [gS]
    by_cases ht : d = t
    · subst ht; unfold argA at hx; simp only at hx; rw [hd] at hx; simp only at hx; rw [ha] at hx; cases hx
    · have : lookT (σ.put d v).t t = lookT σ.t t := by
        show lookT ((d, v) :: σ.t) t = _
        simp [lookT, ht]
      rw [this]
  | _ => rfl
theorem cvAs_congr {B : Nat → Option Bx} {G G' : Operand → FV} : ∀ {l : List Operand}, (∀ x ∈ l, G x = G' x) → cvAs B G l = cvAs B G' l
  | [], _ => rfl
  | x :: l, h => by
    simp only [cvAs]
    rw [h x (List.mem_cons_self ..), cvAs_congr fun y hy => h y (List.mem_cons_of_mem _ hy)]
theorem frAs_congr {G G' : Operand → FV} : ∀ {l : List Operand}, (∀ x ∈ l, G x = G' x) → frAs G l = frAs G' l
  | [], _ => rfl
  | x :: l, h => by
    simp only [frAs]
    rw [h x (List.mem_cons_self ..), frAs_congr fun y hy => h y (List.mem_cons_of_mem _ hy)]
theorem xOp_put {d a : Nat} (hd : dIdx pre d = some a) {af : List Edge} (ha : hasAft af a = false) (v : AV) {op : Op} (hop : argsA pre af op = true) : xOp xs (σ.put d v) op = xOp xs σ op := by
  unfold xOp
  split
  · rename_i f args ats
    have hall : ∀ x ∈ args.toList, gS (σ.put d v) x = gS σ x := fun x hx => gS_put hd ha v (List.all_eq_true.1 hop x hx)
    split
    · rename_i x l hl
      rw [hl] at hall
      rw [hall x (List.mem_cons_self ..)]
      have hc : cvAs (lookB (σ.put d v).b) (gS (σ.put d v)) l = cvAs (lookB σ.b) (gS σ) l := cvAs_congr fun y hy => hall y (List.mem_cons_of_mem _ hy)
      have hf : frAs (gS (σ.put d v)) l = frAs (gS σ) l := frAs_congr fun y hy => hall y (List.mem_cons_of_mem _ hy)
      have hxa : ∀ i, xArg xs (σ.put d v) f l i = xArg xs σ f l i := by
        intro i
        unfold xArg
        rw [hc, hf]
        rfl
      simp only [hxa]
      rfl
    · rfl
  · rfl
theorem bxJ_cons {j : Nat} (hj : memJ j js = true) (T : List (Nat × AV)) (bx : Bx) (n : Nat) : bxJ js ⟨T, (j, bx) :: σ.b, n⟩ = bxJ js σ := by
  funext k
  simp only [bxJ, lookB]
  by_cases hk : memJ k js = true
  · simp [hk]
  · have : ¬ j = k := fun e => hk (e ▸ hj)
    simp [hk, this]
theorem idsOK_up {av : AV} {n : Nat} (h : av.idsOK (fun k => Nat.blt k n) = true) : av.idsOK (fun k => Nat.blt k (n + 1)) = true := by
  have one : ∀ s : SV, s.idsOK (fun k => Nat.blt k n) = true → s.idsOK (fun k => Nat.blt k (n + 1)) = true := fun s hs => by
    cases s <;> first | exact hs | exact blt_iff.2 (Nat.lt_succ_of_lt (blt_iff.1 hs))
  cases av with
  | s s => exact one s h
  | agg l => exact List.all_eq_true.2 fun s hs => one s (List.all_eq_true.1 h s hs)
/-- An operation that leaves all alone gives way. -/
theorem swapL {x : Bool} {oa oi : Oper} {ia ii : Nat} (hK : Inv K) (hda : ∀ d, oa.dst = some d → dIdx pre d = some ia) (hdi : ∀ d, oi.dst = some d → dIdx pre d = some ii) (hne : ia ≠ ii)
    (h1 : hasAft oi.after.toList ia = false) (h2 : hasAft oa.after.toList ii = false) (hx : x = true → argsA pre oi.after.toList oi.op = true)
    (h : ev1L sig xs N pre js false oa σ fun s => ev1L sig xs N pre js x oi s K) : ev1L sig xs N pre js x oi σ fun s => ev1L sig xs N pre js false oa s K := by
  rw [ev1L_iff] at h
  obtain ⟨g1, ⟨e, _⟩ | ⟨e, _⟩ | ⟨e, _⟩ | ⟨_, da, p, av, g2, g3, g4, g5, g6, g7⟩⟩ := h
  · cases e
  · cases e
  · cases e
  rw [ev1L_iff] at g7
  obtain ⟨k1, hcase⟩ := g7
  have eda := hda da g2
  rw [ev1L_iff]
  refine ⟨k1, ?_⟩
  rcases hcase with ⟨rfl, di, j, sg, k2, k3, kj, k4, k5, k6⟩ | ⟨rfl, hd, t, pp, v, j, off, q, bx, hop, hgp, hm, hj, hq, hk⟩ | ⟨rfl, di, t, z, k2, k3, hop, hz, hj, hi, hk⟩ | ⟨rfl, di, p', av', k2, k3, k4, k5, k6, k7⟩
  · have hdd : da ≠ di := by
      rintro rfl
      have e2 := hdi da k2
      rw [eda] at e2; injection e2 with e2; exact hne e2
    have edi := hdi di k2
    rw [xOp_put eda h1 av (hx rfl)] at k4
    refine .inl ⟨rfl, di, j, sg, k2, k3, kj, k4, k5, fun g hk hp => ?_⟩
    obtain ⟨rv, av', e1, e2, e3⟩ := k6 g hk hp
    refine ⟨rv, av', e1, e2, ?_⟩
    rw [ev1L_iff]
    refine ⟨g1, .inr (.inr (.inr ⟨rfl, da, p, av, g2, g3, ?_, g5, g6, ?_⟩))⟩
    · rw [gL_cons edi h2, bxJ_cons kj]
      exact g4
    · refine hK _ _ ?_ e3
      exact ⟨swapT (Ne.symm hdd) _ _ _, rfl, rfl⟩
  · have hx := hx rfl
    rw [hop] at hx
    simp only [argsA, Bool.and_eq_true] at hx
    rw [gS_put eda h1 av hx.1] at hgp
    rw [gS_put eda h1 av hx.2] at hm
    obtain ⟨bx', e, hτ⟩ := mSt_ptr hm
    have hb0 : bx' = bx := by
      have := congrArg (fun s : St => s.b) e
      simp only [St.setB, List.cons.injEq, Prod.mk.injEq, true_and, and_true] at this
      exact this.symm
    subst hb0
    refine .inr (.inl ⟨rfl, hd, t, pp, v, j, off, q, bx', hop, hgp, hτ σ rfl, hj, hq, ?_⟩)
    rw [ev1L_iff]
    refine ⟨g1, .inr (.inr (.inr ⟨rfl, da, p, av, g2, g3, ?_, g5, g6, hk⟩))⟩
    have e1 : bxJ js (σ.setB j bx') = bxJ js σ := bxJ_cons hj σ.t bx' σ.n
    have e2 : gL (σ.setB j bx') pre oa.after.toList = gL σ pre oa.after.toList := by funext x; cases x <;> rfl
    rw [e1, e2]
    exact g4
  · have hdd : da ≠ di := by
      rintro rfl
      have e2 := hdi da k2
      rw [eda] at e2; injection e2 with e2; exact hne e2
    have edi := hdi di k2
    refine .inr (.inr (.inl ⟨rfl, di, t, z, k2, k3, hop, hz, hj, hi, ?_⟩))
    rw [ev1L_iff]
    refine ⟨g1, .inr (.inr (.inr ⟨rfl, da, p, av, g2, g3, ?_, idsOK_up g5, g6, hK _ _ ?_ hk⟩))⟩
    · rw [gL_cons edi h2, bxJ_cons (σ := σ) (show memJ σ.n js = true from hj)]
      exact g4
    · exact ⟨swapT (Ne.symm hdd) _ _ _, rfl, rfl⟩
  · have hdd : da ≠ di := by
      rintro rfl
      have e2 := hdi da k2
      rw [eda] at e2; injection e2 with e2; exact hne e2
    have edi := hdi di k2
    rw [gL_put eda h1] at k4
    refine .inr (.inr (.inr ⟨rfl, di, p', av', k2, k3, k4, k5, k6, ?_⟩))
    rw [ev1L_iff]
    refine ⟨g1, .inr (.inr (.inr ⟨rfl, da, p, av, g2, g3, ?_, g5, g6, ?_⟩))⟩
    · rw [gL_put edi h2]
      exact g4
    · refine hK _ _ ?_ k7
      exact ⟨swapT (Ne.symm hdd) _ _ _, rfl, rfl⟩
theorem frontL {i : Nat} {oi : Oper} (hoi : pre[i]? = some oi) (hK : Inv K) (hdi : ∀ d, oi.dst = some d → dIdx pre d = some i) (hx : fx oi = true → argsA pre oi.after.toList oi.op = true) :
    ∀ (A B : List Nat) (σ : St), (∀ a ∈ A, ∃ oa, pre[a]? = some oa ∧ fx oa = false ∧ (∀ d, oa.dst = some d → dIdx pre d = some a) ∧ a ≠ i ∧ hasAft oi.after.toList a = false ∧ hasAft oa.after.toList i = false) →
      evLin sig xs N pre js fx (A ++ i :: B) σ K → ev1L sig xs N pre js (fx oi) oi σ fun s => evLin sig xs N pre js fx (A ++ B) s K
  | [], B, σ, _, h => by
    simp only [List.nil_append] at h ⊢
    unfold evLin at h
    rw [hoi] at h
    exact h
  | a :: A, B, σ, hA, h => by
    obtain ⟨oa, e1, e2, e3, e4, e5, e6⟩ := hA a (List.mem_cons_self ..)
    simp only [List.cons_append] at h ⊢
    unfold evLin at h
    rw [e1] at h
    simp only at h
    have h' := ev1L_mono (fun s hs => frontL hoi hK hdi hx A B s (fun b hb => hA b (List.mem_cons_of_mem _ hb)) hs) h
    rw [e2] at h'
    have h'' := swapL (evLin_inv hK _) e3 hdi e4 e5 e6 hx h'
    refine ev1L_mono (fun s hs => ?_) h''
    show evLin sig xs N pre js fx (a :: (A ++ B)) s K
    unfold evLin
    rw [e1]
    simp only
    rw [e2]
    exact hs
end
section
variable {sig : FuncId → List AV → Option Sg} {xs : XS} {N : Nat} {js : List Nat} {ops pre : List Oper} {σ σ' : St} {o : Oper} {k : St → Prop} {fx : Oper → Bool} {W : List Ent} {base : Base} {E : Env} {a : Act} {w : World} {Q : Exit → Act → World → Prop} {K : Act → World → Prop}
theorem Rel.eqv (h : Rel base N σ E a w) (he : Eqv σ σ') : Rel base N σ' E a w := by
  obtain ⟨h1, h2, h3, h4, h5, h6, h7, h8, h9⟩ := h
  rw [he.2.1] at h6 h7 h8 h9
  rw [he.1] at h4 h5
  rw [he.2.2] at h5 h6 h9
  exact ⟨h1, h2, h3, h4, h5, h6, h7, h8, h9⟩
theorem ev1L_ok (hsig : SigOK sig) (hxs : XSigOK xs) {x : Bool} {k : St → Prop} (h : Rel base N σ E a w) (hk : ev1L sig xs N pre js x o σ k) (hK : ∀ σ' E' a' w', Rel base N σ' E' a' w' → k σ' → K a' w') : o.guard = none ∧ o.wp Try.prog a w K Q := by
  rw [ev1L_iff] at hk
  obtain ⟨h1, ⟨rfl, d, j, sg, h2, h3, hj, h4, h5, h6⟩ | ⟨rfl, h2, t, p, v, j, off, q, bx, hop, hgp, hm, hj, hq, hk⟩ | ⟨rfl, d, t, z, h2, h3, hop, hz, hj, hi, hk⟩ | ⟨rfl, d, p, av, h2, h3, h4, h5, h6, h7⟩⟩ := hk
  · refine ⟨h1, xOp_ok hxs.1 h1 h2 h3 h h4 h5 fun g hk hp => ?_⟩
    obtain ⟨rv, av, e1, e2, e3⟩ := h6 g hk hp
    refine ⟨_, ?_, fun E' a' w' hR => hK _ E' a' w' hR e3⟩
    rw [e1]
    cases rv with
    | nrow e c => cases e2
    | nbox l => cases e2
    | s s => show (match rvA true (.s s) with | some av => _ | none => _) = _; rw [e2]
    | agg l => show (match rvA true (.agg l) with | some av => _ | none => _) = _; rw [e2]
  · refine ⟨h1, ?_⟩
    obtain ⟨dst, op, ty, pos, af, gd⟩ := o
    simp only at h1 h2 hop
    subst h1 h2 hop
    exact mStore_ok ty pos af h rfl (by rw [hgp]; exact hm) hq fun E' a' w' hR => hK _ E' a' w' hR hk
  · have hm : mOp sig N σ o = some (True, ⟨(d, .s (.ptr σ.n 0)) :: σ.t, (σ.n, .box z) :: σ.b, σ.n + 1⟩) := by
      have ha : aOp sig (lookB σ.b) (gS σ) o.type (.alloc t) = some (True, .box z, true) := by unfold aOp; simp only [stZ, hz]
      have hf : frz1 (frz1 σ (.alloc t)) (.alloc t) = σ := rfl
      unfold mOp
      rw [h1, h2, hop, hf]
      simp only [okDst, blt_iff.2 h3, if_true, mOp1, mGen, ha, hi]
    exact ⟨h1, (mOp_ok hsig h hm trivial (fun E' a' w' h' => hK _ E' a' w' h' hk)).2⟩
  · refine ⟨h1, qOp2_ok (id := σ.n) hsig o h1 h.lo (h.mem.mono (B' := bxJ js σ) fun k bx hk => ?_) h4 h6 (fun x => ?_) (fun x => ?_) fun v w' hv hgr => ?_⟩
    · unfold bxJ at hk
      split at hk
      · cases hk
      · exact hk
    · cases x with
      | tmp t =>
        simp only [gL]
        split
        · exact h.slots t
        · split
          · exact h.slots t
          · trivial
      | const v => exact constFV_has v
      | func f => exact gS_has h (.func f)
      | global g => trivial
    · cases x with
      | tmp t =>
        have hs : (FV.v (lookT σ.t t)).on σ.n = false := by
          cases hon : (FV.v (lookT σ.t t)).on σ.n with
          | false => rfl
          | true => have := h.sids t _ hon; omega
        simp only [gL]
        split
        · exact hs
        · split
          · exact hs
          · rfl
      | const v => simp only [gL, constFV]; split <;> rfl
      | func f => rfl
      | global g => rfl
    · rw [h2]
      exact hK _ _ _ _ ((h.grow hgr).put h3 hv fun k hk => blt_iff.1 (AV.idsOK_on h5 hk)) h7
theorem memN_iff {n : Nat} : ∀ {l : List Nat}, memN n l = true ↔ n ∈ l
  | [] => by simp [memN]
  | m :: l => by simp [memN, memN_iff (l := l)]
theorem readyB_iff {bef : List Nat} : readyB o bef = true ↔ ∀ k, hasAft o.after.toList k = true → k ∈ bef := by
  unfold readyB
  rw [List.all_eq_true]
  constructor
  · intro h k hk
    obtain ⟨ed, h1, h2⟩ := List.any_eq_true.1 hk
    simp only [Bool.and_eq_true, beq_iff_eq] at h2
    have := h ed h1
    rw [h2.2] at this
    rw [← h2.1]
    exact memN_iff.1 (by simpa using this)
  · intro h ed hed
    cases hb : Region.binds .any ed with
    | false => rfl
    | true =>
      have := memN_iff.2 (h ed.on (List.any_eq_true.2 ⟨ed, hed, by simp [hb]⟩))
      simp [this]
theorem okLin_at : ∀ (P S bef : List Nat) (i : Nat), okLin fx W pre bef (P ++ i :: S) = true → okLin1 fx W pre (P.reverse ++ bef) i = true
  | [], S, bef, i, h => by
    simp only [List.nil_append, okLin, Bool.and_eq_true] at h
    simpa using h.1
  | p :: P, S, bef, i, h => by
    simp only [List.cons_append, okLin, Bool.and_eq_true] at h
    have := okLin_at P S (p :: bef) i h.2
    simpa using this
theorem entW_sem : ∀ (l : List Oper) (W : List Ent), W.length + l.length = ops.length → l = ops.drop W.length → Sem1 ops W → Sem1 ops (entW l W) ∧ (entW l W).length = ops.length
  | [], W, h1, _, h => ⟨h, by simpa [entW] using h1⟩
  | o :: l, W, h1, he, h => by
    have hlt : W.length < ops.length := by simp at h1; omega
    have ho : ops[W.length]? = some o ∧ l = ops.drop (W.length + 1) := by
      rw [List.drop_eq_getElem_cons hlt] at he
      injection he with h1 h2
      exact ⟨by rw [List.getElem?_eq_getElem hlt, h1], h2⟩
    unfold entW
    refine entW_sem l _ (by simp at h1 ⊢; omega) (by simpa using ho.2) ?_
    intro j e o' hj hoj
    rcases Nat.lt_or_ge j W.length with h2 | h2
    · rw [List.getElem?_append_left h2] at hj
      rw [List.take_append_of_le_length (by omega)]
      exact h j e o' hj hoj
    · have hj1 : j = W.length := by
        have := (List.getElem?_eq_some_iff.1 hj).1
        simp at this; omega
      subst hj1
      rw [List.getElem?_append_right (by omega)] at hj
      simp only [Nat.sub_self, List.getElem?_cons_zero, Option.some.injEq] at hj
      subst hj
      rw [ho.1] at hoj; injection hoj with hoj; subst hoj
      simp
theorem sem_take {m : Nat} (h : Sem1 ops W) : Sem1 ops (W.take m) := by
  intro j e o hj ho
  obtain ⟨h1, h2⟩ := take_get hj
  have := h j e o h2 ho
  rw [this]
  congr 1
  rw [List.take_take]
  congr 1
  omega
/-- The order that is printed stands for all. -/
theorem lin_any (hsig : SigOK sig) (hxs : XSigOK xs) (hac : acyc ops 0 = true) {m : Nat} (hm : m ≤ ops.length) (hpre : pre = ops.take m) (hcov : ∀ i o, m ≤ i → ops[i]? = some o → ∀ L : Nat → Bool, DC ops L → (∀ l, hasAft o.after.toList l = true → L l = true) → ∀ l, l < m → L l = true) {c0 : List Nat} (hc0 : okLin fx W pre [] c0 = true) (hall : allD m c0 = true) (hW : Sem1 ops W) (hWl : W.length = ops.length)
    {k : St → Prop} (hki : Inv k) (hend : ∀ (fuel : Nat) (listed : Array Bool) σ' E' a' w', listed.size = ops.length → (∀ i, LA listed i = decide (i < m)) → unl (LA listed) ops.length ≤ fuel → Rel base N σ' E' a' w' → k σ' → wpAny Try.prog .any ops.toArray Q fuel listed a' w') :
    ∀ (fuel : Nat) (listed : Array Bool) (σ : St) (E : Env) (a : Act) (w : World), listed.size = ops.length → (∀ i, LA listed i = true → i < m) → DC ops (LA listed) → unl (LA listed) ops.length ≤ fuel → Rel base N σ E a w →
      evLin sig xs N pre js fx (c0.filter fun i => !LA listed i) σ k → wpAny Try.prog .any ops.toArray Q fuel listed a w := by
  have hdone : ∀ (fuel : Nat) (listed : Array Bool) (σ : St) (E : Env) (a : Act) (w : World), listed.size = ops.length → (∀ i, LA listed i = true → i < m) → unl (LA listed) ops.length ≤ fuel → Rel base N σ E a w → (∀ i, i < m → LA listed i = true) →
      evLin sig xs N pre js fx (c0.filter fun i => !LA listed i) σ k → wpAny Try.prog .any ops.toArray Q fuel listed a w := by
    intro fuel listed σ E a w hs hlim hu hR hal h
    have hL : ∀ i, LA listed i = decide (i < m) := by
      intro i
      by_cases hi : i < m
      · rw [hal i hi]; simp [hi]
      · cases hl : LA listed i with
        | false => simp [hi]
        | true => exact absurd (hlim i hl) hi
    have hnil : (c0.filter fun i => !LA listed i) = [] := by
      refine List.filter_eq_nil_iff.2 fun i hi => ?_
      obtain ⟨P, S, rfl⟩ := List.append_of_mem hi
      have h1 := okLin_at P S [] i hc0
      unfold okLin1 at h1
      simp only [Bool.and_eq_true] at h1
      have h2 := h1.2
      split at h2
      · rename_i oi hoi
        have : i < m := by
          have := (List.getElem?_eq_some_iff.1 hoi).1
          rw [hpre] at this
          simp at this; omega
        simp [hal i this]
      · cases h2
    rw [hnil] at h
    exact hend fuel listed σ E a w hs hL hu hR h
  intro fuel
  induction fuel with
  | zero =>
    intro listed σ E a w hs hlim hD hu hR h
    have hr := unl_zero hs (by omega)
    exact hdone 0 listed σ E a w hs hlim hu hR (fun i hi => all_listed hs hac hr (i + 1) i (by omega) (by omega)) h
  | succ fuel ih =>
    intro listed σ E a w hs hlim hD hu hR h
    by_cases hal : ∀ i, i < m → LA listed i = true
    · exact hdone (fuel + 1) listed σ E a w hs hlim hu hR hal h
    · refine ⟨fun hr => absurd (fun i hi => all_listed hs hac hr (i + 1) i (by omega) (by omega)) hal, fun i hi => ?_⟩
      obtain ⟨h1, o, ho, haf⟩ := (mem_rdy hs).1 hi
      have his : i < ops.length := (List.getElem?_eq_some_iff.1 ho).1
      have him : i < m := by
        rcases Nat.lt_or_ge i m with h | h
        · exact h
        · exact absurd (fun l hl => hcov i o h ho (LA listed) hD haf l hl) hal
      have hopre : ∀ {l : Nat} {ol : Oper}, pre[l]? = some ol → ops[l]? = some ol := by
        intro l ol hl
        rw [hpre, List.getElem?_take] at hl
        split at hl
        · exact hl
        · cases hl
      have hoi : pre[i]? = some o := by rw [hpre, List.getElem?_take, if_pos him]; exact ho
      have hmem : i ∈ c0 := memN_iff.1 (List.all_eq_true.1 hall i (List.mem_range.2 him))
      obtain ⟨P, S, hPS⟩ := List.append_of_mem hmem
      subst hPS
      have open1 : ∀ (P' S' : List Nat) (b : Nat), P ++ i :: S = P' ++ b :: S' → ∃ ob, pre[b]? = some ob ∧ b ∉ P' ∧ (∀ l, hasAft ob.after.toList l = true → l ∈ P') ∧ (∀ d, ob.dst = some d → dIdx pre d = some b) ∧ (fx ob = true → argsA pre ob.after.toList ob.op = true) ∧
          ∀ l ∈ P', fxAt fx pre l = true → bitW W b l = true := by
        intro P' S' b he
        rw [he] at hc0
        have q := okLin_at P' S' [] b hc0
        unfold okLin1 at q
        simp only [Bool.and_eq_true] at q
        obtain ⟨q1, q2⟩ := q
        split at q2
        · rename_i ob hob
          simp only [Bool.and_eq_true] at q2
          obtain ⟨⟨⟨q2, q3⟩, q4⟩, q5⟩ := q2
          refine ⟨ob, hob, fun hb => ?_, fun l hl => ?_, fun d hd => ?_, fun hf => ?_, fun l hl hf => ?_⟩
          · have : memN b (P'.reverse ++ []) = true := memN_iff.2 (by simpa using hb)
            rw [this] at q1; cases q1
          · have := readyB_iff.1 q2 l hl
            simpa using this
          · rw [hd] at q3
            simpa using q3
          · rw [hf] at q4
            simpa using q4
          · have := List.all_eq_true.1 q5 l (by simpa using hl)
            rw [hf] at this
            simpa using this
        · cases q2
      obtain ⟨oi, r1, r2, r3, r4, r5, r6⟩ := open1 P S i rfl
      rw [hoi] at r1; injection r1 with r1; subst r1
      have hiP : ∀ l ∈ P, l ≠ i := fun l hl e => r2 (e ▸ hl)
      have hiS : ∀ l ∈ S, l ≠ i := by
        intro l hl e
        subst e
        obtain ⟨S1, S2, rfl⟩ := List.append_of_mem hl
        obtain ⟨ob, _, t2, _⟩ := open1 (P ++ l :: S1) S2 l (by simp)
        exact t2 (by simp)
      have hsplit : ((P ++ i :: S).filter fun l => !LA listed l) = (P.filter fun l => !LA listed l) ++ i :: (S.filter fun l => !LA listed l) := by
        rw [List.filter_append, List.filter_cons, if_pos (by simp [h1])]
      rw [hsplit] at h
      have hfront := frontL hoi hki r4 r5 (P.filter fun l => !LA listed l) (S.filter fun l => !LA listed l) σ (fun b hb => ?_) h
      · obtain ⟨hg, hw⟩ := ev1L_ok (Q := Q) (K := wpAny Try.prog .any ops.toArray Q fuel (listed.setIfInBounds i true)) hsig hxs hR hfront (fun σ' E' a' w' hR' hk' => by
          have hLA : ∀ l, LA (listed.setIfInBounds i true) l = withL (LA listed) i l := fun l => LA_set (by omega) l
          refine ih _ σ' E' a' w' (by simpa using hs) (fun l hl => ?_) ?_ ?_ hR' ?_
          · rw [hLA] at hl
            by_cases hli : l = i
            · omega
            · rw [withL_ne hli] at hl; exact hlim l hl
          · have := DC_set hD ho haf
            intro l ol hl hol q hq
            rw [hLA] at hl ⊢
            exact this l ol hl hol q hq
          · have := unl_set his h1
            have e : unl (LA (listed.setIfInBounds i true)) ops.length = unl (withL (LA listed) i) ops.length := by
              congr 1; funext l; exact hLA l
            omega
          · have e : ((P ++ i :: S).filter fun l => !LA (listed.setIfInBounds i true) l) = (P.filter fun l => !LA listed l) ++ (S.filter fun l => !LA listed l) := by
              rw [List.filter_append, List.filter_cons, if_neg (by rw [hLA]; simp [withL])]
              congr 1
              · exact List.filter_congr fun l hl => by rw [hLA, withL_ne (hiP l hl)]
              · exact List.filter_congr fun l hl => by rw [hLA, withL_ne (hiS l hl)]
            rw [e]
            exact hk')
        have hoa : ops.toArray[i]? = some o := by simpa using ho
        unfold wpOp
        simp only [hoa]
        have hwant : Region.wanted o (yielded ops.toArray a.tmps) = true := by simp [Region.wanted, hg]
        rw [if_pos hwant]
        exact .inl hw
      · obtain ⟨hb1, hb2⟩ := List.mem_filter.1 hb
        have hbl : LA listed b = false := by simpa using hb2
        obtain ⟨P1, P2, rfl⟩ := List.append_of_mem hb1
        obtain ⟨ob, t1, t2, t3, t4, t5, t6⟩ := open1 P1 (P2 ++ i :: S) b (by simp)
        refine ⟨ob, t1, ?_, t4, hiP b hb1, ?_, ?_⟩
        · cases hf : fx ob with
          | false => rfl
          | true =>
            exfalso
            have hbit := r6 b hb1 (by unfold fxAt; rw [t1]; exact hf)
            unfold bitW at hbit
            split at hbit
            · rename_i e he
              have hdp := hW i e o he ho
              rw [hdp, dpOf_bit] at hbit
              obtain ⟨ed, q1, q2, q3⟩ := hbit
              have q4 : LA listed ed.on = true := haf ed.on (List.any_eq_true.2 ⟨ed, q1, by simp [q2]⟩)
              rcases q3 with q3 | ⟨en, q3, q5⟩
              · rw [q3, hbl] at q4; cases q4
              · have q6 := (take_get q3).2
                have := dc_bits hW (by omega) hD (ed.on + 1) ed.on en (by omega) q6 q4 b q5
                rw [hbl] at this; cases this
            · cases hbit
        · cases hh : hasAft o.after.toList b with
          | false => rfl
          | true => rw [haf b hh] at hbl; cases hbl
        · cases hh : hasAft ob.after.toList i with
          | false => rfl
          | true => exact absurd (List.mem_append_left _ (t3 i hh)) r2
theorem evLin_mono {K K' : St → Prop} (hKK : ∀ s, K s → K' s) : ∀ (c : List Nat) (s : St), evLin sig xs N pre js fx c s K → evLin sig xs N pre js fx c s K'
  | [], s, hs => hKK s hs
  | i :: c, s, hs => by
    unfold evLin at hs ⊢
    split at hs
    · exact ev1L_mono (fun s' hs' => evLin_mono hKK c s' hs') hs
    · exact hs.elim
theorem cover_ok (hW : Sem1 ops W) (hWl : W.length = ops.length) {m : Nat} (h : coverB W m = true) : ∀ i o, m ≤ i → ops[i]? = some o → ∀ L : Nat → Bool, DC ops L → (∀ l, hasAft o.after.toList l = true → L l = true) → ∀ l, l < m → L l = true := by
  intro i o hi ho L hD haf l hl
  have his : i < ops.length := (List.getElem?_eq_some_iff.1 ho).1
  have he : W[i]? = some W[i] := List.getElem?_eq_getElem (by omega)
  have hmem : W[i] ∈ W.drop m := by
    rw [List.mem_iff_getElem?]
    exact ⟨i - m, by rw [List.getElem?_drop, show m + (i - m) = i by omega]; exact he⟩
  have hb := beq_iff_eq.1 (List.all_eq_true.1 h _ hmem)
  have hbit : (W[i].dp).testBit l = true := by
    have := congrArg (fun x => Nat.testBit x l) hb
    simp only [Nat.testBit_and, Nat.testBit_two_pow_sub_one, hl, decide_true, Bool.true_and] at this
    exact this
  rw [hW i _ o he ho, dpOf_bit] at hbit
  obtain ⟨ed, q1, q2, q3⟩ := hbit
  have q4 : L ed.on = true := haf ed.on (List.any_eq_true.2 ⟨ed, q1, by simp [q2]⟩)
  rcases q3 with q3 | ⟨en, q3, q5⟩
  · rw [← q3]; exact q4
  · exact dc_bits hW (by omega) hD (ed.on + 1) ed.on en (by omega) (take_get q3).2 q4 l q5
theorem evLinA_ok (hsig : SigOK sig) (hxs : XSigOK xs) {k : St → Prop} {m : Nat} (h : Rel base N σ E a w) (hk : evLinA sig xs N ops (entW ops []) m σ k) (hQ : ∀ σ' E' a' w', Rel base N σ' E' a' w' → k σ' → Q .normal a' w') :
    wpAny Try.prog .any ops.toArray Q ops.length (Array.replicate ops.length false) a w := by
  unfold evLinA evLinB evLinC at hk
  obtain ⟨hb, hk⟩ := hk
  simp only [Bool.and_eq_true] at hb
  obtain ⟨⟨⟨⟨b1, b2⟩, b3⟩, b4⟩, b5⟩ := hb
  have hle : m ≤ ops.length := Nat.le_of_ble_eq_true b2
  obtain ⟨hW, hWl⟩ := entW_sem (ops := ops) ops [] (by simp) (by simp) (fun j e o hj => by simp at hj)
  have htl : ((entW ops []).take m).length = m := by simp; omega
  have hfull := fullB_ok (ops := ops) (ops.drop m) ((entW ops []).take m) (sem_take hW) (by omega) (by rw [htl]) (by rw [htl]; exact b3)
  rw [htl] at hfull
  have hla : ∀ i, LA (Array.replicate ops.length false) i = false := fun i => by
    simp [LA, Array.getD_eq_getD_getElem?, Array.getElem?_replicate]
    split <;> rfl
  refine lin_any (js := σ.n :: jsX σ (List.take m ops) (List.take m ops)) (k := fun s => ∃ s', Eqv s' s ∧ evTail sig xs N ops (ops.drop m) [] [] s' k) hsig hxs b1 hle rfl (fun i o hi ho L hD haf l hl => hfull i o hi ho L hD haf l (by omega)) b4 b5 hW hWl (fun s s' he ⟨s0, h0, h1⟩ => ⟨s0, h0.trans he, h1⟩) (fun fuel listed σ' E' a' w' hs hL hu hR ⟨s0, h0, h1⟩ => any_tail b1 hfull fuel m listed a' w' (Nat.le_refl _) hle hs hL hu ?_) ops.length _ σ E a w (by simp) (fun i hi => by rw [hla] at hi; cases hi) (fun i o hi => by rw [hla] at hi; cases hi) ?_ h ?_
  · exact evTail_ok hsig hxs _ [] [] s0 E' a' w' k (hR.eqv h0.symm) TP.nil h1 hQ
  · unfold unl
    exact Nat.le_trans (List.length_filter_le _ _) (by simp)
  · have e : (linO (fxX σ (List.take m ops)) (List.take m ops) m []).filter (fun i => !LA (Array.replicate ops.length false) i) = linO (fxX σ (List.take m ops)) (List.take m ops) m [] :=
      List.filter_eq_self.2 fun i _ => by simp [hla]
    rw [e]
    clear b4 b5 e
    generalize linO (fxX σ (List.take m ops)) (List.take m ops) m [] = c at hk ⊢
    exact evLin_mono (fun s hs => ⟨s, Eqv.refl s, hs⟩) c σ hk
end
end Go.Proofs.Ytdpokkegkedlfaa
