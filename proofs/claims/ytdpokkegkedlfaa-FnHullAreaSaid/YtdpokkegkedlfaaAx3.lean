/- Operations that leave the memory of the call's own alone: the evaluation, and that it holds. -/
import Derived.Test.YtdpokkegkedlfaaAxC
namespace Go.Proofs.Ytdpokkegkedlfaa
open Go.RowKit
set_option maxRecDepth 10000
/-- What a loop carries from round to round. -/
inductive GV
  | int (n : Int)
  | bool (b : Bool)
  | ints (l : List Int)
  | pts (l : List Pt)
  | bools (l : List Bool)
  | intss (l : List (List Int))
  | ptss (l : List (List Pt))
  | boolss (l : List (List Bool))
inductive GK
  | int | bool | ints | pts | bools | intss | ptss | boolss
def allG : List GK → (List GV → Prop) → Prop
  | [], f => f []
  | .int :: l, f => ∀ n, allG l fun g => f (.int n :: g)
  | .bool :: l, f => ∀ n, allG l fun g => f (.bool n :: g)
  | .ints :: l, f => ∀ n, allG l fun g => f (.ints n :: g)
  | .pts :: l, f => ∀ n, allG l fun g => f (.pts n :: g)
  | .bools :: l, f => ∀ n, allG l fun g => f (.bools n :: g)
  | .intss :: l, f => ∀ n, allG l fun g => f (.intss n :: g)
  | .ptss :: l, f => ∀ n, allG l fun g => f (.ptss n :: g)
  | .boolss :: l, f => ∀ n, allG l fun g => f (.boolss n :: g)
def GV.kd : GV → GK
  | .int _ => .int
  | .bool _ => .bool
  | .ints _ => .ints
  | .pts _ => .pts
  | .bools _ => .bools
  | .intss _ => .intss
  | .ptss _ => .ptss
  | .boolss _ => .boolss
theorem allG_at : ∀ {l : List GK} {f : List GV → Prop}, allG l f → ∀ g : List GV, g.map GV.kd = l → f g
  | [], f, h, g, hg => by cases g with | nil => exact h | cons _ _ => simp at hg
  | k :: l, f, h, g, hg => by
    cases g with
    | nil => simp at hg
    | cons v g =>
      simp only [List.map_cons, List.cons.injEq] at hg
      obtain ⟨rfl, hg⟩ := hg
      cases v <;> exact allG_at (h _) g hg
/-- What a callee hands back, and what it owes to be called. -/
inductive RV
  | s (a : SV)
  | agg (l : List SV)
  | nrow (e : TypeId) (c : Cont)
  | nbox (l : List SV)
structure Sg where
  need : Prop
  ret : List RV
def EL (L : Nat → Prop) : Env := ⟨fun _ => undef, L, none⟩
def RV.has (n : Nat) (L0 : Nat → Prop) (w : World) (v : Value) : RV → Prop
  | .s a => a.has (EL L0) w v
  | .agg l => ∃ cs : Array Value, v = .agg cs ∧ hasL (EL L0) w cs.toList l
  | .nrow e c => Owned n (fun b => L0 b ∨ blk v = some b) w v e c
  | .nbox l => (Bx.box l).ok n (EL fun b => L0 b ∨ blk v = some b) w v
def hasR (n : Nat) (L0 : Nat → Prop) (w : World) : List Value → List RV → Prop
  | [], [] => True
  | v :: vs, a :: l => a.has n L0 w v ∧ hasR n L0 w vs l
  | _, _ => False
def retOK (n : Nat) (L0 : Nat → Prop) (w : World) (v : Value) : List RV → Prop
  | [a] => a.has n L0 w v
  | l => ∃ cs : Array Value, v = .tuple cs ∧ hasR n L0 w cs.toList l
/-- What the package-level variables hold: nothing is asked here. -/
def NG : Nat := 0
def GInv (_ : World) : Prop := True
theorem GInv.keep {w w' : World} {X : Option Nat} (_ : GInv w) (_ : w.grownBy w' X) (_ : ∀ b, X = some b → NG ≤ b) : GInv w' := trivial
theorem GInv.ng {w : World} (_ : GInv w) : NG ≤ w.heap.size := Nat.zero_le _
structure LtI (L : Nat → Prop) (w : World) : Prop where
  lt' : ∀ b, L b → NG ≤ b ∧ b < w.heap.size
  inv : GInv w
instance (L : Nat → Prop) (w : World) : CoeFun (LtI L w) (fun _ => ∀ b, L b → b < w.heap.size) := ⟨fun h b hb => (h.lt' b hb).2⟩
def SigOK (sig : FuncId → List AV → Option Sg) : Prop :=
  ∀ f avs sg, sig f avs = some sg → sg.need → ∀ (L0 : Nat → Prop) (args : Array Value) (w : World), LtI L0 w → hasA (EL L0) w args.toList avs →
    (callFunc f args).run Try.prog w = .ok (.enter f args) w ∧
    Calls Try.prog f args w fun e w' => ∃ v, e = .returned v ∧ retOK w.heap.size L0 w' v sg.ret ∧ Bel w w'
/-- Facts that lean on no memory of the call's own. -/
def SV.free : SV → Bool
  | .top | .int _ | .bool _ | .nil | .view _ | .x _ | .rdr _ | .byt _ => true
  | _ => false
def cvS (B : Nat → Option Bx) : SV → Option SV
  | .row k => match B k with
    | some (.row _ c) => some (.view c)
    | _ => none
  | .ptr _ _ => none
  | .vptr _ _ _ => none
  | .rptr _ _ _ _ => none
  | .bptr _ _ => none
  | .u8 _ => none
  | a => some a
def cvL (B : Nat → Option Bx) : List SV → Option (List SV)
  | [] => some []
  | a :: l => match cvS B a with
    | some b => match cvL B l with
      | some m => some (b :: m)
      | none => none
    | none => none
def cvA (B : Nat → Option Bx) : FV → Option AV
  | .v (.s a) => match cvS B a with
    | some b => some (.s b)
    | none => none
  | .v (.agg l) => match cvL B l with
    | some m => some (.agg m)
    | none => none
  | .tup _ => none
def cvAs (B : Nat → Option Bx) (G : Operand → FV) : List Operand → Option (List AV)
  | [] => some []
  | x :: l => match cvA B (G x) with
    | some b => match cvAs B G l with
      | some m => some (b :: m)
      | none => none
    | none => none
def qBin (op : BinOp) (t : TypeId) : FV → FV → Option (Prop × FV)
  | .v (.s (.int a)), .v (.s (.int b)) => match op with
    | .add => some (True, .v (.s (.int (iadd a b))))
    | .sub => some (True, .v (.s (.int (isub a b))))
    | .mul => some (True, .v (.s (.int (imul a b))))
    | .quo => some (NNe b 0, .v (.s (.int (iquo a b))))
    | .rem => some (NNe b 0, .v (.s (.int (irem a b))))
    | .lss => some (True, .v (.s (.bool (ilt a b))))
    | .leq => some (True, .v (.s (.bool (ile a b))))
    | .gtr => some (True, .v (.s (.bool (ilt b a))))
    | .geq => some (True, .v (.s (.bool (ile b a))))
    | .eql => some (True, .v (.s (.bool (ieq a b))))
    | .neq => some (True, .v (.s (.bool (bnot (ieq a b)))))
    | _ => none
  | .v (.s (.bool a)), .v (.s (.bool b)) => match op, tyOf t with
    | .eql, some .sc => if t == 4 then some (True, .v (.s (.bool (bnot (bxor a b))))) else none
    | .neq, some .sc => if t == 4 then some (True, .v (.s (.bool (bxor a b)))) else none
    | _, _ => none
  | .v (.agg [.int a, .int b]), .v (.agg [.int c, .int d]) => match op, tyOf t with
    | .eql, some (.st [.int _, .int _]) => some (True, .v (.s (.bool (band (ieq a c) (ieq b d)))))
    | .neq, some (.st [.int _, .int _]) => some (True, .v (.s (.bool (bnot (band (ieq a c) (ieq b d))))))
    | _, _ => none
  | _, _ => none
def qUn (op : UnOp) : FV → Option (Prop × FV)
  | .v (.s (.int a)) => match op with
    | .neg => some (True, .v (.s (.int (ineg a))))
    | _ => none
  | .v (.s (.bool a)) => match op with
    | .not => some (True, .v (.s (.bool (bnot a))))
    | _ => none
  | _ => none
/-- A struct of three rows, read as a slice of three. -/
def arm3 : Cont → Int → Option (List SV)
  | .intss [x, y, z], i => if decide (i = 0) then some [.view (.ints x), .view (.ints y), .view (.ints z)] else none
  | _, _ => none
def qLoad (B : Nat → Option Bx) (t : TypeId) : FV → Option (Prop × FV)
  | .v (.s (.ptr k o)) => match tyOf t, B k with
    | some (.st z), some (.box l) => if Nat.ble (o + z.length) l.length then some (True, .v (.agg ((l.drop o).take z.length))) else none
    | some _, some (.box l) => match l[o]? with
      | some a => some (True, .v (.s a))
      | none => none
    | _, _ => none
  | .v (.s (.vptr c i o)) => match tyOf t with
    | some (.st z) => if o == 0 && z.length == 2 && c.sz == 2 then some (True, .v (.agg [c.get i 0, c.get i 1])) else if o == 0 && z.length == 3 then (match arm3 c i with
      | some l => some (True, .v (.agg l))
      | none => none) else none
    | some _ => if Nat.blt o c.sz then some (True, .v (.s (c.get i o))) else none
    | none => none
  | .v (.s (.rptr k sz i o)) => match tyOf t, B k with
    | some (.st z), some (.row _ c) => if sz == c.sz && o == 0 && z.length == 2 && c.sz == 2 then some (NLt i c.ilen, .v (.agg [c.get i 0, c.get i 1])) else none
    | some _, some (.row _ c) => if sz == c.sz && Nat.blt o c.sz then some (NLt i c.ilen, .v (.s (c.get i o))) else none
    | _, _ => none
  | .v (.s (.bptr l i)) => match tyOf t with
    | some .sc => some (True, .v (.s (.u8 (geti l i))))
    | _ => none
  | _ => none
def u8T (t : TypeId) : Bool :=
  t == 5 ||
  false
def intT (t : TypeId) : Bool := t == 3
def qConv (s d : TypeId) : FV → Option (Prop × FV)
  | .v (.s (.u8 n)) => if u8T s && intT d then some (True, .v (.s (.int (iadd n 0)))) else none
  | _ => none
def qFld (B : Nat → Option Bx) (t : TypeId) (k : Nat) : FV → Option (Prop × FV)
  | .v (.s (.ptr j o)) => match tyOf t, B j with
    | some (.st z), some (.box _) => if Nat.blt k z.length then some (True, .v (.s (.ptr j (o + k)))) else none
    | _, _ => none
  | .v (.s (.vptr c i o)) => match tyOf t with
    | some (.st z) => if Nat.blt k z.length then some (True, .v (.s (.vptr c i (o + k)))) else none
    | _ => none
  | .v (.s (.rptr j sz i o)) => match tyOf t, B j with
    | some (.st z), some (.row _ c) => if Nat.blt k z.length then some (NLt i c.ilen, .v (.s (.rptr j sz i (o + k)))) else none
    | _, _ => none
  | _ => none
def qField (t : TypeId) (k : Nat) : FV → Option (Prop × FV)
  | .v (.agg l) => match tyOf t, l[k]? with
    | some (.st z), some a => if z.length == l.length then some (True, .v (.s a)) else none
    | _, _ => none
  | _ => none
def qIdx (B : Nat → Option Bx) (t : TypeId) : FV → FV → Option (Prop × FV)
  | .v (.s (.byt l)), .v (.s (.int i)) => if byteT t then some (NLe 0 i ∧ NLt i (ilen l), .v (.s (.bptr l i))) else none
  | .v (.s (.view c)), .v (.s (.int i)) => match tyOf t with
    | some (.sl _ c0) => if c0.sz == c.sz then some (NLe 0 i ∧ NLt i c.ilen, .v (.s (.vptr c i 0))) else none
    | _ => none
  | .v (.s (.row k)), .v (.s (.int i)) => match tyOf t, B k with
    | some (.sl _ c0), some (.row _ c) => if c0.sz == c.sz then some (NLe 0 i ∧ NLt i c.ilen, .v (.s (.rptr k c.sz i 0))) else none
    | _, _ => none
  | .v (.s (.ptr k o)), .v (.s (.int i)) => match arOf t, B k with
    | some z, some (.box l) => if decide (0 ≤ i) && decide (i < z.length) && Nat.ble (o + z.length) l.length then some (True, .v (.s (.ptr k (o + i.toNat)))) else none
    | _, _ => none
  | _, _ => none
def qLen (B : Nat → Option Bx) : FV → Option (Prop × FV)
  | .v (.s (.view c)) => some (True, .v (.s (.int c.ilen)))
  | .v (.s .nil) => some (True, .v (.s (.int 0)))
  | .v (.s (.row k)) => match B k with
    | some (.row _ c) => some (True, .v (.s (.int c.ilen)))
    | _ => none
  | _ => none
def qLenB : FV → Option (Prop × FV)
  | .v (.s (.rdr n)) => some (True, .v (.s (.int n)))
  | .v (.s (.byt l)) => some (True, .v (.s (.int (ilen l))))
  | _ => none
def qMax : List FV → Option (Prop × FV)
  | [.v (.s (.int a)), .v (.s (.int b))] => some (True, .v (.s (.int (imax a b))))
  | [.v (.s (.int a)), .v (.s (.int b)), .v (.s (.int c))] => some (True, .v (.s (.int (imax (imax a b) c))))
  | _ => none
def qMin : List FV → Option (Prop × FV)
  | [.v (.s (.int a)), .v (.s (.int b))] => some (True, .v (.s (.int (imin a b))))
  | _ => none
/-- All arguments lean on no memory of the call's own. -/
def FV.fr : FV → Bool
  | .v (.s a) => a.free
  | .v (.agg l) => l.all (·.free)
  | .tup _ => false
def frAs (G : Operand → FV) : List Operand → Bool
  | [] => true
  | x :: l => (G x).fr && frAs G l
def SV.pl : SV → Bool
  | .int _ | .bool _ | .nil | .top | .x _ => true
  | _ => false
def okF (fr : Bool) (a : SV) : Bool := a.pl || (fr && a.free)
def rvA (fr : Bool) : RV → Option AV
  | .s a => if okF fr a then some (.s a) else none
  | .agg l => if l.all (okF fr) then some (.agg l) else none
  | .nrow _ _ => none
  | .nbox _ => none
def rvAs (fr : Bool) : List RV → Option (List AV)
  | [] => some []
  | a :: l => match rvA fr a with
    | some b => match rvAs fr l with
      | some m => some (b :: m)
      | none => none
    | none => none
def qRet (fr : Bool) : List RV → Option FV
  | [a] => match rvA fr a with
    | some b => some (.v b)
    | none => none
  | l => match rvAs fr l with
    | some m => some (.tup m)
    | none => none
def qCall (sig : FuncId → List AV → Option Sg) (B : Nat → Option Bx) (G : Operand → FV) (f : FuncId) (args : List Operand) : Option (Prop × FV) :=
  match cvAs B G args with
  | some avs => match sig f avs with
    | some sg => match qRet (frAs G args) sg.ret with
      | some r => some (sg.need, r)
      | none => none
    | none => none
  | none => none
def qExt (k : Nat) : FV → Option (Prop × FV)
  | .tup l => match l[k]? with
    | some a => some (True, .v a)
    | none => none
  | _ => none
def SV.cell : SV → Bool
  | .int _ | .bool _ | .nil | .view _ => true
  | _ => false
def setParts (G : Operand → FV) : List (Nat × Operand) → List SV → Option (List SV)
  | [], z => some z
  | (i, x) :: l, z => match G x with
    | .v (.s a) => if a.cell && Nat.blt i z.length then setParts G l (z.set i a) else none
    | _ => none
def qBuild (G : Operand → FV) (t : TypeId) (parts : List (Nat × Operand)) : Option (Prop × FV) :=
  match stZ t with
  | some z => match setParts G parts z with
    | some l => some (True, .v (.agg l))
    | none => none
  | none => none
def Cont.cut : Cont → Int → Cont
  | .ints l, i => .ints (itake l i)
  | .pts l, i => .pts (itake l i)
  | .bools l, i => .bools (itake l i)
  | .intss l, i => .intss (itake l i)
  | .ptss l, i => .ptss (itake l i)
  | .boolss l, i => .boolss (itake l i)
def Cont.rest : Cont → Int → Cont
  | .ints l, i => .ints (idrop l i)
  | .pts l, i => .pts (idrop l i)
  | .bools l, i => .bools (idrop l i)
  | .intss l, i => .intss (idrop l i)
  | .ptss l, i => .ptss (idrop l i)
  | .boolss l, i => .boolss (idrop l i)
def qCut (t : TypeId) : FV → FV → Option (Prop × FV)
  | .v (.s (.view c)), .v (.s (.int i)) => match tyOf t with
    | some (.sl _ c0) => if c0.sz == c.sz then some (NLe 0 i ∧ NLe i c.ilen, .v (.s (.view (c.cut i)))) else none
    | _ => none
  | _, _ => none
def qRest (t : TypeId) : FV → FV → Option (Prop × FV)
  | .v (.s (.view c)), .v (.s (.int i)) => match tyOf t with
    | some (.sl _ c0) => if c0.sz == c.sz then some (NLe 0 i ∧ NLe i c.ilen, .v (.s (.view (c.rest i)))) else none
    | _ => none
  | _, _ => none
def qOp (sig : FuncId → List AV → Option Sg) (B : Nat → Option Bx) (G : Operand → FV) : Op → Option (Prop × FV)
  | .move x => some (True, G x)
  | .assign x => some (True, G x)
  | .binOp op t x y _ => qBin op t (G x) (G y)
  | .unOp op _ x => qUn op (G x)
  | .build t parts => qBuild G t parts.toList
  | .load t x => qLoad B t (G x)
  | .convert s d x => qConv s d (G x)
  | .fieldAddr t x k => qFld B t k (G x)
  | .field t x k => qField t k (G x)
  | .indexAddr t x i => qIdx B t (G x) (G i)
  | .extract x i => qExt i (G x)
  | .slice t x none (some y) none => qCut t (G x) (G y)
  | .slice t x (some y) none none => qRest t (G x) (G y)
  | .call ⟨.builtin .len, args, ats⟩ => match args.toList, ats.toList with
    | [x], [t] => match tyOf t with
      | some (.sl _ _) => qLen B (G x)
      | _ => if byteT t then qLenB (G x) else none
    | _, _ => none
  | .call ⟨.value (.tmp t), args, _⟩ => match G (.tmp t) with
    | .v (.s (.x (.func (.func f) a b))) => if a.isEmpty && b.isEmpty then qCall sig B G f args.toList else none
    | _ => none
  | .call ⟨.builtin .max, args, _⟩ => qMax (args.toList.map G)
  | .call ⟨.builtin .min, args, _⟩ => qMin (args.toList.map G)
  | .call ⟨.value (.func f), args, _⟩ => qCall sig B G f args.toList
  | _ => none
/-! ### It holds -/
theorem byteT_sz {t : TypeId} (h : byteT t = true) : ∃ e, Try.prog.underlying t = some (.slice e) ∧ ∃ inf, Try.prog.info? e = some inf ∧ inf.size = 1 := by
  unfold byteT at h
  simp only [Bool.or_false, Bool.or_eq_true, beq_iff_eq, Bool.false_eq_true] at h
  subst h
  exact ⟨_, Try.underlying35, (Try.prog.info? 5).get (by kernel_rfl), by kernel_rfl, by kernel_rfl⟩
theorem conv_u8 {s d : TypeId} (hs : u8T s = true) (hd : intT d = true) (n : Int) (w : World) : (convert s d (.int .u8 n)).run Try.prog w = .ok (.int .i64 (IntKind.i64.wrap n)) w := by
  unfold u8T at hs
  unfold intT at hd
  simp only [Bool.or_false, Bool.or_eq_true, beq_iff_eq, Bool.false_eq_true] at hs hd
  subst hs hd
  first | rfl | kernel_rfl | simp [go_sem, convert]
theorem NLe.out {a b : Int} (h : NLe a b) : a ≤ b := by unfold NLe at h; exact h
theorem NLt.out {a b : Int} (h : NLt a b) : a < b := by unfold NLt at h; exact h
theorem NNe.out {a b : Int} (h : NNe a b) : a ≠ b := by unfold NNe at h; exact h
/-- The memory of the call's own, as it is known. -/
structure MemOK (base : Nat) (E : Env) (w : World) (B : Nat → Option Bx) : Prop where
  lt : LtI E.lv w
  ok : ∀ k bx, B k = some bx → bx.ok base E w (E.hd k)
  lv : ∀ k bx b, B k = some bx → blk (E.hd k) = some b → E.lv b
theorem LtI.grow {L : Nat → Prop} {w w' : World} {X : Option Nat} (h : LtI L w) (hg : w.grownBy w' X) (hx : ∀ b, X = some b → L b) : LtI L w' :=
  ⟨fun b hb => ⟨(h.lt' b hb).1, Nat.lt_of_lt_of_le (h.lt' b hb).2 hg.size⟩, h.inv.keep hg fun b e => (h.lt' b (hx b e)).1⟩
theorem bel_grown {w w' : World} (h : Bel w w') : w.grownBy w' none := ⟨h.os, h.tape, h.output, h.size, fun k hk _ => h.block k hk⟩
theorem grown_evo {E : Env} {w w' : World} (h : w.grownBy w' none) : Evo E E w w' := ⟨h.size, fun b hb _ => h.block b hb (by simp), fun _ _ h => h, fun _ h => h⟩
section
variable {sig : FuncId → List AV → Option Sg} {base : Nat} {E : Env} {w : World} {B : Nat → Option Bx} {G : Operand → FV} {a : Act} {K : Act → World → Prop} {Q : Exit → Act → World → Prop} {p : Prop} {r : FV}
  (dst : Option Tmp) (ty : TypeId) (pos : String) (af : Array Edge)
theorem wp_run {o : Oper} {w' : World} {v : Value} (h : (execOp a.eval o).run Try.prog w = .ok (.value v) w') (hk : K (a.put o.dst v) w') : o.wp Try.prog a w K Q := by
  unfold Oper.wp; rw [h]; exact hk
/-- What an operation's value is told to be holds, in a world that has only grown. -/
def QOut (E : Env) (w : World) (r : FV) (a : Act) (o : Oper) (K : Act → World → Prop) : Prop := ∀ v w', r.has E w' v → w.grownBy w' none → K (a.put o.dst v) w'
set_option maxRecDepth 20000 in
theorem run_eql_agg2 {t : TypeId} {z1 z2 : Int} (ht : tyOf t = some (.st [.int z1, .int z2])) (x y : Operand) (n1 n2 m1 m2 : Int) (w : World) (op : BinOp) (hop : op = .eql ∨ op = .neq) :
    (do eqGuard op t x y (.agg #[.int .i64 n1, .int .i64 n2]) (.agg #[.int .i64 m1, .int .i64 m2]); binOp op t (.agg #[.int .i64 n1, .int .i64 n2]) (.agg #[.int .i64 m1, .int .i64 m2]) : Sem Value).run Try.prog w = .ok (.bool (if op = .eql then (decide (n1 = m1) && decide (n2 = m2)) else !(decide (n1 = m1) && decide (n2 = m2)))) w := by
  unfold tyOf at ht
  repeat (
    rcases ite_ty ht with ⟨hb, hq⟩ | hq <;> clear ht <;> have ht := hq <;> clear hq
    · first
        | (simp at ht; done)
        | (obtain rfl := beq_iff_eq.1 hb
           rcases hop with rfl | rfl
           all_goals
             simp [go_sem]
           all_goals
             by_cases h1 : n1 = m1 <;> by_cases h2 : n2 = m2 <;> simp [h1, h2]))
  cases ht
theorem qBin_ok (op : BinOp) (t t' : TypeId) (x y : Operand) (h : qBin op t (G x) (G y) = some (p, r)) (hp : p) (hx : (G x).has E w (a.eval x)) (hy : (G y).has E w (a.eval y)) (hq : QOut E w r a ⟨dst, .binOp op t x y t', ty, pos, af, none⟩ K) :
    Oper.wp Try.prog ⟨dst, .binOp op t x y t', ty, pos, af, none⟩ a w K Q := by
  generalize hgx : G x = gx at *
  generalize hgy : G y = gy at *
  unfold qBin at h
  split at h
  · rename_i n m
    have ex : a.eval x = .int .i64 n := hx
    have ey : a.eval y = .int .i64 m := hy
    split at h
    all_goals first
      | (cases h; done)
      | skip
    all_goals
      injection h with h; injection h with h1 h2; subst h1 h2
    all_goals
      refine wp_run (w' := w) ?_ (hq _ w rfl ⟨rfl, rfl, rfl, Nat.le_refl _, fun _ _ _ => rfl⟩)
      unfold execOp
      generalize a.eval = ρ at *
    case h_4 => have := hp.out; simp [ex, ey, go_sem, iquo, this]
    case h_5 => have := hp.out; simp [ex, ey, go_sem, irem, this]
    all_goals
      simp [ex, ey, go_sem, iadd, isub, imul, ilt, ile, ieq, bnot]
    case h_10 => by_cases hnm : n = m <;> simp [hnm]
    case h_11 => by_cases hnm : n = m <;> simp [hnm]
  · rename_i n m
    have ex : a.eval x = .bool n := hx
    have ey : a.eval y = .bool m := hy
    split at h
    · split at h
      · rename_i ht; obtain rfl := beq_iff_eq.1 ht
        injection h with h; injection h with h1 h2; subst h1 h2
        refine wp_run (w' := w) ?_ (hq _ w rfl ⟨rfl, rfl, rfl, Nat.le_refl _, fun _ _ _ => rfl⟩)
        unfold execOp
        generalize a.eval = ρ at *
        simp [ex, ey, go_sem, bnot, bxor]
        cases n <;> cases m <;> rfl
      · cases h
    · split at h
      · rename_i ht; obtain rfl := beq_iff_eq.1 ht
        injection h with h; injection h with h1 h2; subst h1 h2
        refine wp_run (w' := w) ?_ (hq _ w rfl ⟨rfl, rfl, rfl, Nat.le_refl _, fun _ _ _ => rfl⟩)
        unfold execOp
        generalize a.eval = ρ at *
        simp [ex, ey, go_sem, bxor]
        cases n <;> cases m <;> rfl
      · cases h
    · cases h
  · rename_i n1 n2 m1 m2
    obtain ⟨cs, ex, hl⟩ := hx
    obtain ⟨ds, ey, hm⟩ := hy
    have e1 : cs = #[.int .i64 n1, .int .i64 n2] := by
      obtain ⟨cl⟩ := cs
      match cl, hl with
      | [u, v], hl => obtain ⟨h1, h2, _⟩ := hl; rw [show u = _ from h1, show v = _ from h2]
      | [], hl => exact hl.elim
      | [u], hl => exact hl.2.elim
      | u :: v :: z :: l, hl => exact hl.2.2.elim
    have e2 : ds = #[.int .i64 m1, .int .i64 m2] := by
      obtain ⟨cl⟩ := ds
      match cl, hm with
      | [u, v], hl => obtain ⟨h1, h2, _⟩ := hl; rw [show u = _ from h1, show v = _ from h2]
      | [], hl => exact hl.elim
      | [u], hl => exact hl.2.elim
      | u :: v :: z :: l, hl => exact hl.2.2.elim
    subst e1 e2
    split at h
    · rename_i ht
      injection h with h; injection h with h1 h2; subst h1 h2
      refine wp_run (w' := w) (v := .bool (decide (n1 = m1) && decide (n2 = m2))) ?_ (hq _ w (by simp [FV.has, AV.has, SV.has, band, ieq]) ⟨rfl, rfl, rfl, Nat.le_refl _, fun _ _ _ => rfl⟩)
      have := run_eql_agg2 ht x y n1 n2 m1 m2 w .eql (.inl rfl)
      unfold execOp
      generalize a.eval = ρ at *
      simp only [ex, ey, Sem.run_bind, this, if_true]
      simp [Result.andThen]
    · rename_i ht
      injection h with h; injection h with h1 h2; subst h1 h2
      refine wp_run (w' := w) (v := .bool (!(decide (n1 = m1) && decide (n2 = m2)))) ?_ (hq _ w (by simp [FV.has, AV.has, SV.has, band, ieq, bnot]) ⟨rfl, rfl, rfl, Nat.le_refl _, fun _ _ _ => rfl⟩)
      have := run_eql_agg2 ht x y n1 n2 m1 m2 w .neq (.inr rfl)
      unfold execOp
      generalize a.eval = ρ at *
      simp only [ex, ey, Sem.run_bind, this]
      simp [Result.andThen]
    · cases h
  · cases h
theorem qUn_ok (op : UnOp) (t : TypeId) (x : Operand) (h : qUn op (G x) = some (p, r)) (hx : (G x).has E w (a.eval x)) (hq : QOut E w r a ⟨dst, .unOp op t x, ty, pos, af, none⟩ K) :
    Oper.wp Try.prog ⟨dst, .unOp op t x, ty, pos, af, none⟩ a w K Q := by
  generalize hgx : G x = gx at *
  unfold qUn at h
  split at h
  · rename_i n
    have ex : a.eval x = .int .i64 n := hx
    split at h
    · injection h with h; injection h with h1 h2; subst h1 h2
      refine wp_run (w' := w) ?_ (hq _ w rfl ⟨rfl, rfl, rfl, Nat.le_refl _, fun _ _ _ => rfl⟩)
      unfold execOp
      generalize a.eval = ρ at *
      simp [ex, go_sem, ineg]
    · cases h
  · rename_i n
    have ex : a.eval x = .bool n := hx
    split at h
    · injection h with h; injection h with h1 h2; subst h1 h2
      refine wp_run (w' := w) ?_ (hq _ w rfl ⟨rfl, rfl, rfl, Nat.le_refl _, fun _ _ _ => rfl⟩)
      unfold execOp
      generalize a.eval = ρ at *
      simp [ex, go_sem, bnot]
    · cases h
  · cases h
theorem blt_lt {a b : Nat} (h : Nat.blt a b = true) : a < b := Nat.le_of_ble_eq_true h
theorem same_grown (w : World) : w.grownBy w none := ⟨rfl, rfl, rfl, Nat.le_refl _, fun _ _ _ => rfl⟩
theorem box_ptr {k o : Nat} {l : List SV} (hM : MemOK base E w B) (hb : B k = some (.box l)) : ∃ g, ptrIn (E.hd k) o = .pointer (some ⟨g, o, none⟩) ∧ ∀ (j : Nat) a, l[j]? = some a → ∃ u, w.cell? ⟨g, j, none⟩ = some u ∧ a.has E w u := by
  obtain ⟨g, cs, e, h1, h2, h3, h4⟩ := hM.ok k _ hb
  refine ⟨g, by rw [h1]; simp [ptrIn], fun j a ha => ?_⟩
  obtain ⟨u, hu, hh⟩ := (hasL_get h4).2 j a ha
  exact ⟨u, by rw [cell_of_row w g j cs e (0, 0) h3]; simpa using hu, hh⟩
theorem vptr_cells {c : Cont} {i : Int} {b off n cap : Nat} (h : Reads E.lv w (.slice (some ⟨b, off, none⟩) n cap) c) (h0 : 0 ≤ i) (h1 : i < c.len) (o : Nat) (ho : o < c.sz) :
    ∃ u, w.cell? ⟨b, off + (i.toNat * c.sz + o), none⟩ = some u ∧ (c.get i o).has E w u := by
  obtain ⟨xs, ⟨A, cap', e1, h2, h3, h4, h5⟩, h6⟩ := h
  obtain ⟨u, hu, hh⟩ := get_has h6 h4 h0 h1 ho
  injection e1 with e1 e2 e3
  have hn : 0 < c.len := by omega
  obtain ⟨b', off', e4, _, _, hc⟩ := h5 hn
  rw [e4] at e1
  injection e1 with e1; injection e1 with e5 e6
  subst e5 e6
  exact ⟨u, hc _ _ hu, hh⟩
theorem row_cells {k : Nat} {e : TypeId} {c : Cont} {i : Int} (hM : MemOK base E w B) (hb : B k = some (.row e c)) (h0 : 0 ≤ i) (h1 : i < c.len) (o : Nat) (ho : o < c.sz) :
    ∃ g u, ptrIn (E.hd k) (i.toNat * c.sz + o) = .pointer (some ⟨g, i.toNat * c.sz + o, none⟩) ∧ w.cell? ⟨g, i.toNat * c.sz + o, none⟩ = some u ∧ (c.get i o).has E w u := by
  obtain ⟨xs, h2, h3⟩ := hM.ok k _ hb
  obtain ⟨u, hu, hh⟩ := get_has h3 h2.1 h0 h1 ho
  rcases h2.2 with ⟨_, hz⟩ | ⟨g, cap, cur, hv, _, hg, hn, hm, _, htake⟩
  · omega
  · refine ⟨g, u, by rw [hv]; simp [ptrIn], ?_, hh⟩
    rw [cell_of_row w g _ cur e (0, 0) hg]
    rw [← htake, List.getElem?_take] at hu
    split at hu
    · simpa using hu
    · cases hu
theorem qLoad_ok (t : TypeId) (x : Operand) (hM : MemOK base E w B) (h : qLoad B t (G x) = some (p, r)) (hp : p) (hx : (G x).has E w (a.eval x)) (hq : QOut E w r a ⟨dst, .load t x, ty, pos, af, none⟩ K) :
    Oper.wp Try.prog ⟨dst, .load t x, ty, pos, af, none⟩ a w K Q := by
  have key : ∀ v, (Instr.loadAt t (a.eval x)).run Try.prog w = .ok v w → r.has E w v → Oper.wp Try.prog ⟨dst, .load t x, ty, pos, af, none⟩ a w K Q := fun v hv hr => by
    refine wp_run (w' := w) (v := v) ?_ (hq _ w hr (same_grown w))
    unfold execOp
    generalize a.eval = ρ at *
    simp [hv, Result.andThen]
  generalize hgx : G x = gx at *
  unfold qLoad at h
  split at h
  · rename_i k o
    split at h
    · rename_i z l ht hb
      split at h
      · rename_i hle
        have hle' := Nat.le_of_ble_eq_true hle
        injection h with h; injection h with h1 h2; subst h1 h2
        obtain ⟨g, e1, hc⟩ := box_ptr (o := o) hM hb
        have hx' : a.eval x = ptrIn (E.hd k) o := hx
        obtain ⟨f, hf⟩ := Classical.axiomOfChoice (r := fun (j : Fin l.length) u => w.cell? ⟨g, j, none⟩ = some u ∧ (l[j]).has E w u) (fun j => hc j l[j] (List.getElem?_eq_getElem j.2))
        have hcs : (List.ofFn f).length = l.length := by simp
        rw [e1] at hx'
        refine key (.agg (((List.ofFn f).drop o).take z.length).toArray) ?_ ⟨_, rfl, ?_⟩
        · rw [hx']
          refine run_loadAt_st ht (by simp; omega) fun j u hu => ?_
          rw [List.getElem?_take] at hu
          split at hu
          · rw [List.getElem?_drop] at hu
            have hj : o + j < l.length := by omega
            rw [List.getElem?_ofFn] at hu
            simp only [hj, dite_true, Option.some.injEq] at hu
            subst hu
            exact (hf ⟨o + j, hj⟩).1
          · cases hu
        · refine hasL_drop_take (hasL_mk hcs fun i b u hb' hu => ?_) o z.length
          have hi : i < l.length := (List.getElem?_eq_some_iff.1 hb').1
          rw [List.getElem?_ofFn] at hu
          simp only [hi, dite_true, Option.some.injEq] at hu
          subst hu
          rw [List.getElem?_eq_getElem hi] at hb'
          injection hb' with hb'
          subst hb'
          exact (hf ⟨i, hi⟩).2
      · cases h
    · rename_i tt l hnz ht hb
      split at h
      · rename_i b hlo
        injection h with h; injection h with h1 h2; subst h1 h2
        obtain ⟨g, e1, hc⟩ := box_ptr (o := o) hM hb
        obtain ⟨u, hu, hh⟩ := hc o b hlo
        have hx' : a.eval x = ptrIn (E.hd k) o := hx
        rw [e1] at hx'
        refine key u ?_ hh
        rw [hx']
        exact run_loadAt_one ht (by cases tt <;> first | rfl | exact absurd rfl (hnz _)) hu
      · cases h
    · cases h
  · rename_i c i o
    obtain ⟨b, off, n, cap, e1, h2, h3, h4⟩ := hx
    split at h
    · rename_i z ht
      split at h
      · rename_i hk
        simp only [Bool.and_eq_true, beq_iff_eq] at hk
        obtain ⟨⟨rfl, hz⟩, hs⟩ := hk
        injection h with h; injection h with h1 h2'; subst h1 h2'
        obtain ⟨u0, hu0, hh0⟩ := vptr_cells h2 h3 h4 0 (by omega)
        obtain ⟨u1, hu1, hh1⟩ := vptr_cells h2 h3 h4 1 (by omega)
        refine key (.agg [u0, u1].toArray) ?_ ⟨_, rfl, hh0, hh1, trivial⟩
        rw [e1]
        refine run_loadAt_st ht (by simp [hz]) fun j u hu => ?_
        match j, hu with
        | 0, hu => injection hu with hu; subst hu; exact hu0
        | 1, hu => injection hu with hu; subst hu; simpa [Nat.add_assoc] using hu1
        | j + 2, hu => simp at hu
      · split at h
        · rename_i hk
          simp only [Bool.and_eq_true, beq_iff_eq] at hk
          obtain ⟨rfl, hz⟩ := hk
          split at h
          · rename_i l hl
            injection h with h; injection h with h1 h2'; subst h1 h2'
            unfold arm3 at hl
            split at hl
            · rename_i x0 x1 x2 hno3
              split at hl
              · rename_i hi
                have hi' : i = 0 := by simpa using hi
                subst hi'
                injection hl with hl; subst hl
                obtain ⟨u0, hu0, hh0⟩ := vptr_cells h2 (i := 0) (by omega) (by simp [Cont.len]) 0 (by simp [Cont.sz])
                obtain ⟨u1, hu1, hh1⟩ := vptr_cells h2 (i := 1) (by omega) (by simp [Cont.len]) 0 (by simp [Cont.sz])
                obtain ⟨u2, hu2, hh2⟩ := vptr_cells h2 (i := 2) (by omega) (by simp [Cont.len]) 0 (by simp [Cont.sz])
                have g0 : getl [x0, x1, x2] 0 = x0 := by unfold getl; rfl
                have g1 : getl [x0, x1, x2] 1 = x1 := by unfold getl; rfl
                have g2 : getl [x0, x1, x2] 2 = x2 := by unfold getl; rfl
                simp only [Cont.get, g0, g1, g2] at hh0 hh1 hh2
                refine key (.agg [u0, u1, u2].toArray) ?_ ⟨_, rfl, hh0, hh1, hh2, trivial⟩
                rw [e1]
                refine run_loadAt_st ht (by simp [hz]) fun j u hu => ?_
                match j, hu with
                | 0, hu => injection hu with hu; subst hu; exact hu0
                | 1, hu => injection hu with hu; subst hu; simpa [Cont.sz] using hu1
                | 2, hu => injection hu with hu; subst hu; simpa [Cont.sz] using hu2
                | j + 3, hu => simp at hu
              · cases hl
            · cases hl
          · cases h
        · cases h
    · rename_i tt hnz ht
      split at h
      · rename_i ho
        have ho' : o < c.sz := blt_lt ho
        injection h with h; injection h with h1 h2'; subst h1 h2'
        obtain ⟨u, hu, hh⟩ := vptr_cells h2 h3 h4 o ho'
        refine key u ?_ hh
        rw [e1]
        exact run_loadAt_one ht (by cases tt <;> first | rfl | exact absurd rfl (hnz _)) hu
      · cases h
    · cases h
  · rename_i k sz i o
    obtain ⟨hx1, hx2⟩ := hx
    split at h
    · rename_i z e c ht hb
      split at h
      · rename_i hk
        simp only [Bool.and_eq_true, beq_iff_eq] at hk
        obtain ⟨⟨⟨rfl, rfl⟩, hz⟩, hs⟩ := hk
        injection h with h; injection h with h1 h2; subst h1 h2
        have hi := hp.out
        rw [Cont.ilen_eq] at hi
        obtain ⟨g, u0, e0, hu0, hh0⟩ := row_cells hM hb hx2 hi 0 (by omega)
        obtain ⟨g', u1, e1, hu1, hh1⟩ := row_cells hM hb hx2 hi 1 (by omega)
        have hgg : g' = g := by
          obtain ⟨xs, q1, q2⟩ := hM.ok k _ hb
          rcases q1.2 with ⟨_, hz⟩ | ⟨g2, cap, cur, hv, _⟩
          · omega
          · rw [hv] at e0 e1
            simp [ptrIn] at e0 e1
            omega
        subst hgg
        refine key (.agg [u0, u1].toArray) ?_ ⟨_, rfl, hh0, hh1, trivial⟩
        rw [hx1, e0]
        refine run_loadAt_st ht (by simp [hz]) fun j u hu => ?_
        match j, hu with
        | 0, hu => injection hu with hu; subst hu; exact hu0
        | 1, hu => injection hu with hu; subst hu; simpa [Nat.add_assoc] using hu1
        | j + 2, hu => simp at hu
      · cases h
    · rename_i tt e c hnz ht hb
      split at h
      · rename_i hk
        simp only [Bool.and_eq_true, beq_iff_eq] at hk
        obtain ⟨rfl, ho⟩ := hk
        have ho' : o < c.sz := blt_lt ho
        injection h with h; injection h with h1 h2; subst h1 h2
        have hi := hp.out
        rw [Cont.ilen_eq] at hi
        obtain ⟨g, u, e1, hu, hh⟩ := row_cells hM hb hx2 hi o ho'
        refine key u ?_ hh
        rw [hx1, e1]
        exact run_loadAt_one ht (by cases tt <;> first | rfl | exact absurd rfl (hnz _)) hu
      · cases h
    · cases h
  · rename_i l i
    split at h
    · rename_i ht
      injection h with h; injection h with h1 h2; subst h1 h2
      obtain ⟨b, off, e1, q2, q3, q4⟩ := hx
      refine key (.int .u8 (geti l i)) ?_ rfl
      rw [e1]
      exact run_loadAt_one ht rfl q4
    · cases h
  · cases h
theorem qConv_ok (s d : TypeId) (x : Operand) (h : qConv s d (G x) = some (p, r)) (hx : (G x).has E w (a.eval x)) (hq : QOut E w r a ⟨dst, .convert s d x, ty, pos, af, none⟩ K) :
    Oper.wp Try.prog ⟨dst, .convert s d x, ty, pos, af, none⟩ a w K Q := by
  generalize hgx : G x = gx at *
  unfold qConv at h
  split at h
  · rename_i n
    split at h
    · rename_i ht
      simp only [Bool.and_eq_true] at ht
      injection h with h; injection h with h1 h2; subst h1 h2
      have ex : a.eval x = .int .u8 n := hx
      refine wp_run (w' := w) (v := .int .i64 (IntKind.i64.wrap n)) ?_ (hq _ w (by show _ = _; unfold iadd; rw [Int.add_zero]) (same_grown w))
      unfold execOp
      simp only [ex]
      have := conv_u8 ht.1 ht.2 n w
      generalize a.eval = ρ at *
      simp [this]
    · cases h
  · cases h

theorem qFld_ok (t : TypeId) (x : Operand) (k : Nat) (hM : MemOK base E w B) (h : qFld B t k (G x) = some (p, r)) (hp : p) (hx : (G x).has E w (a.eval x)) (hq : QOut E w r a ⟨dst, .fieldAddr t x k, ty, pos, af, none⟩ K) :
    Oper.wp Try.prog ⟨dst, .fieldAddr t x k, ty, pos, af, none⟩ a w K Q := by
  have key : ∀ v, (Instr.fieldAt t (a.eval x) k).run Try.prog w = .ok v w → r.has E w v → Oper.wp Try.prog ⟨dst, .fieldAddr t x k, ty, pos, af, none⟩ a w K Q := fun v hv hr => by
    refine wp_run (w' := w) (v := v) ?_ (hq _ w hr (same_grown w))
    unfold execOp
    generalize a.eval = ρ at *
    simp [hv, Result.andThen]
  generalize hgx : G x = gx at *
  unfold qFld at h
  split at h
  · rename_i j o
    split at h
    · rename_i z l ht hb
      split at h
      · rename_i hk
        injection h with h; injection h with h1 h2; subst h1 h2
        obtain ⟨g, e1, _⟩ := box_ptr (o := o) hM hb
        obtain ⟨g', e2, _⟩ := box_ptr (o := o + k) hM hb
        have hx' : a.eval x = ptrIn (E.hd j) o := hx
        have hgg : g' = g := by
          obtain ⟨g2, cs, e, h1, _⟩ := hM.ok j _ hb
          rw [h1] at e1 e2
          simp [ptrIn] at e1 e2
          omega
        subst hgg
        refine key _ ?_ e2.symm
        rw [hx', e1]
        exact run_fieldAt_st ht (blt_lt hk)
      · cases h
    · cases h
  · rename_i c i o
    obtain ⟨b, off, n, cap, e1, h2, h3, h4⟩ := hx
    split at h
    · rename_i z ht
      split at h
      · rename_i hk
        injection h with h; injection h with h1 h2'; subst h1 h2'
        refine key (.pointer (some ⟨b, off + (i.toNat * c.sz + (o + k)), none⟩)) ?_ ⟨b, off, n, cap, rfl, h2, h3, h4⟩
        have := run_fieldAt_st ht (w := w) (b := b) (o := off + (i.toNat * c.sz + o)) (blt_lt hk)
        rw [e1, this]
        simp only [Nat.add_assoc]
      · cases h
    · cases h
  · rename_i j sz i o
    obtain ⟨hx1, hx2⟩ := hx
    split at h
    · rename_i z e c ht hb
      split at h
      · rename_i hk
        injection h with h; injection h with h1 h2; subst h1 h2
        have hi := hp.out
        rw [Cont.ilen_eq] at hi
        obtain ⟨xs, q1, q2⟩ := hM.ok j _ hb
        rcases q1.2 with ⟨_, hz⟩ | ⟨g2, cap, cur, hv, _⟩
        · omega
        · refine key (ptrIn (E.hd j) (i.toNat * sz + (o + k))) ?_ ⟨rfl, hx2⟩
          rw [hx1, hv]
          simp only [ptrIn, Nat.zero_add]
          rw [← Nat.add_assoc]
          exact run_fieldAt_st ht (blt_lt hk)
      · cases h
    · cases h
  · cases h
theorem qField_ok (t : TypeId) (x : Operand) (k : Nat) (h : qField t k (G x) = some (p, r)) (hx : (G x).has E w (a.eval x)) (hq : QOut E w r a ⟨dst, .field t x k, ty, pos, af, none⟩ K) :
    Oper.wp Try.prog ⟨dst, .field t x k, ty, pos, af, none⟩ a w K Q := by
  generalize hgx : G x = gx at *
  unfold qField at h
  split at h
  · rename_i l
    obtain ⟨cs, e1, hl⟩ := hx
    split at h
    · rename_i z b ht hb
      split at h
      · rename_i hz
        have hz' : z.length = l.length := beq_iff_eq.1 hz
        injection h with h; injection h with h1 h2; subst h1 h2
        obtain ⟨q1, q2⟩ := hasL_get hl
        have hk : k < l.length := (List.getElem?_eq_some_iff.1 hb).1
        obtain ⟨u, hu, hh⟩ := q2 k b hb
        have hcs : cs.size = l.length := by simpa using q1
        have hu' : cs[k]'(by omega) = u := by
          rw [Array.getElem?_toList, Array.getElem?_eq_getElem (by omega)] at hu
          exact Option.some.inj hu
        have := run_field_st ht (w := w) (cs := cs) (k := k) (by omega) (by omega)
        refine wp_run (w' := w) (v := u) ?_ (hq _ w hh (same_grown w))
        unfold execOp
        generalize a.eval = ρ at *
        simp [e1, this, hu', Result.andThen]
      · cases h
    · cases h
  · cases h
theorem qIdx_ok (t : TypeId) (x y : Operand) (hM : MemOK base E w B) (h : qIdx B t (G x) (G y) = some (p, r)) (hp : p) (hx : (G x).has E w (a.eval x)) (hy : (G y).has E w (a.eval y)) (hq : QOut E w r a ⟨dst, .indexAddr t x y, ty, pos, af, none⟩ K) :
    Oper.wp Try.prog ⟨dst, .indexAddr t x y, ty, pos, af, none⟩ a w K Q := by
  have key : ∀ v, (Instr.indexAt t (a.eval x) (a.eval y)).run Try.prog w = .ok v w → r.has E w v → Oper.wp Try.prog ⟨dst, .indexAddr t x y, ty, pos, af, none⟩ a w K Q := fun v hv hr => by
    refine wp_run (w' := w) (v := v) ?_ (hq _ w hr (same_grown w))
    unfold execOp
    generalize a.eval = ρ at *
    simp [hv, Result.andThen]
  generalize hgx : G x = gx at *
  generalize hgy : G y = gy at *
  unfold qIdx at h
  split at h
  · rename_i l i
    have ey : a.eval y = .int .i64 i := hy
    split at h
    · rename_i hbt
      injection h with h; injection h with h1 h2; subst h1 h2
      have i0 := hp.1.out
      have i1 := hp.2.out
      have i1' : i < l.length := by simpa [ilen] using i1
      obtain ⟨A, c, e1, e3, e4, hc⟩ := hx
      obtain ⟨b, off, rfl, q2, q3, q4⟩ := hc (by omega)
      have hg : l[i.toNat]? = some (geti l i) := by
        have : i.toNat < l.length := by omega
        unfold geti; simp [List.getD_eq_getElem?_getD, this]
      refine key (.pointer (some ⟨b, off + i.toNat, none⟩)) ?_ ⟨b, off + i.toNat, rfl, q2, q3, q4 _ _ hg⟩
      rw [e1, ey]
      obtain ⟨e, hu, inf, hi, hs⟩ := byteT_sz hbt
      simp [Instr.indexAt, asIntOf, run_underlying hu, sizeOf, typeInfo, hi, hs, i0, i1', Addr.add_mid]
    · cases h
  · rename_i c i
    have ey : a.eval y = .int .i64 i := hy
    split at h
    · rename_i e c0 ht
      split at h
      · rename_i hs
        have hs' : c0.sz = c.sz := beq_iff_eq.1 hs
        injection h with h; injection h with h1 h2; subst h1 h2
        have i0 := hp.1.out
        have i1 := hp.2.out
        rw [Cont.ilen_eq] at i1
        have hx' := hx
        obtain ⟨xs, ⟨A, cap, e1, h2, h3, h4, h5⟩, h6⟩ := hx
        obtain ⟨b, off, rfl, hb, hL, hc⟩ := h5 (by omega)
        refine key (.pointer (some ⟨b, off + i.toNat * c.sz, none⟩)) ?_ ⟨b, off, c.len, cap, rfl, by rw [← e1]; exact hx', i0, i1⟩
        rw [e1, ey, ← hs']
        exact run_indexAt_sl ht i0 i1
      · cases h
    · cases h
  · rename_i k i
    have ey : a.eval y = .int .i64 i := hy
    split at h
    · rename_i e c0 e' c ht hb
      split at h
      · rename_i hs
        have hs' : c0.sz = c.sz := beq_iff_eq.1 hs
        injection h with h; injection h with h1 h2; subst h1 h2
        have i0 := hp.1.out
        have i1 := hp.2.out
        rw [Cont.ilen_eq] at i1
        obtain ⟨xs, q1, q2⟩ := hM.ok k _ hb
        have hx' : a.eval x = E.hd k := hx
        rcases q1.2 with ⟨_, hz⟩ | ⟨g2, cap, cur, hv, _⟩
        · omega
        · refine key (ptrIn (E.hd k) (i.toNat * c.sz + 0)) ?_ ⟨rfl, i0⟩
          rw [hx', ey, hv]
          simp only [ptrIn, Nat.zero_add, Nat.add_zero, ← hs']
          have := run_indexAt_sl ht (w := w) (b := g2) (o := 0) (n := c.len) (cap := cap) i0 i1
          rw [Nat.zero_add] at this
          exact this
      · cases h
    · cases h
  · rename_i k o i
    have ey : a.eval y = .int .i64 i := hy
    split at h
    · rename_i z l hz hb
      split at h
      · rename_i hs
        simp only [Bool.and_eq_true, decide_eq_true_eq] at hs
        injection h with h; injection h with h1 h2; subst h1 h2
        obtain ⟨⟨e, hu, hsz⟩, _⟩ := arOf_ok hz
        obtain ⟨g, cs, e', q1, q2, q3, q4⟩ := hM.ok k _ hb
        have hx' : a.eval x = ptrIn (E.hd k) o := hx
        refine key (ptrIn (E.hd k) (o + i.toNat)) ?_ rfl
        rw [hx', ey, q1]
        cases hi : Try.prog.info? e with
        | none => rw [hi] at hsz; simp at hsz
        | some inf =>
          rw [hi] at hsz
          have h1 : inf.size = 1 := by simpa using hsz
          have i0 : 0 ≤ i := hs.1.1
          have i1 : i < z.length := hs.1.2
          simp [ptrIn, Instr.indexAt, asIntOf, run_underlying hu, Instr.sureAddr, sizeOf, typeInfo, hi, h1, i0, i1, Addr.add_mid]
      · cases h
    · cases h
  · cases h
theorem reads_form {L : Nat → Prop} {v : Value} {c : Cont} (h : Reads L w v c) : ∃ A cap, v = .slice A c.len cap := by
  obtain ⟨xs, ⟨A, cap, e1, _⟩, _⟩ := h; exact ⟨A, cap, e1⟩
theorem qLen_ok (x : Operand) (args : Array Operand) (ha : args.toList = [x]) (ats : Array TypeId) (t e : TypeId) (c0 : Cont) (hat : ats.toList = [t]) (ht : tyOf t = some (.sl e c0)) (hM : MemOK base E w B) (h : qLen B (G x) = some (p, r)) (hx : (G x).has E w (a.eval x)) (hq : QOut E w r a ⟨dst, .call ⟨.builtin .len, args, ats⟩, ty, pos, af, none⟩ K) :
    Oper.wp Try.prog ⟨dst, .call ⟨.builtin .len, args, ats⟩, ty, pos, af, none⟩ a w K Q := by
  obtain ⟨al⟩ := args
  obtain ⟨atl⟩ := ats
  simp only at ha hat
  subst ha hat
  obtain ⟨hu, _⟩ := ty_sl ht
  have key : ∀ A n cap, a.eval x = .slice A n cap → r.has E w (.int .i64 (n : Int)) → Oper.wp Try.prog ⟨dst, .call ⟨.builtin .len, #[x], #[t]⟩, ty, pos, af, none⟩ a w K Q := fun A n cap hv hr => by
    refine wp_run (w' := w) ?_ (hq _ w hr (same_grown w))
    unfold execOp
    generalize a.eval = ρ at *
    simp [hv, resolve, invoke, builtin, Builtin.len_, run_underlying hu, goInt]
  generalize hgx : G x = gx at *
  unfold qLen at h
  split at h
  · rename_i c
    injection h with h; injection h with h1 h2; subst h1 h2
    obtain ⟨A, cap, e1⟩ := reads_form hx
    exact key A c.len cap e1 (by rw [Cont.ilen_eq]; exact rfl)
  · injection h with h; injection h with h1 h2; subst h1 h2
    exact key none 0 0 hx rfl
  · rename_i k
    split at h
    · rename_i e c hb
      injection h with h; injection h with h1 h2; subst h1 h2
      have hx' : a.eval x = E.hd k := hx
      obtain ⟨xs, q1, q2⟩ := hM.ok k _ hb
      rcases q1.2 with ⟨hv, hz⟩ | ⟨g2, cap, cur, hv, _⟩
      · exact key none 0 0 (by rw [hx', hv]) (by rw [Cont.ilen_eq, hz]; exact rfl)
      · exact key _ c.len cap (by rw [hx', hv]) (by rw [Cont.ilen_eq]; exact rfl)
    · cases h
  · cases h
theorem qLenB_ok (x : Operand) (args : Array Operand) (ha : args.toList = [x]) (ats : Array TypeId) (t : TypeId) (hat : ats.toList = [t]) (ht : byteT t = true) (h : qLenB (G x) = some (p, r)) (hx : (G x).has E w (a.eval x)) (hq : QOut E w r a ⟨dst, .call ⟨.builtin .len, args, ats⟩, ty, pos, af, none⟩ K) :
    Oper.wp Try.prog ⟨dst, .call ⟨.builtin .len, args, ats⟩, ty, pos, af, none⟩ a w K Q := by
  obtain ⟨al⟩ := args
  obtain ⟨atl⟩ := ats
  simp only at ha hat
  subst ha hat
  obtain ⟨e, hu⟩ := byteT_ok ht
  generalize hgx : G x = gx at *
  unfold qLenB at h
  split at h
  · rename_i n
    injection h with h; injection h with h1 h2; subst h1 h2
    obtain ⟨A, k, c, e1, e2, _⟩ := hx
    refine wp_run (w' := w) (v := .int .i64 (k : Int)) ?_ (hq _ w (by rw [e2]; exact rfl) (same_grown w))
    unfold execOp
    generalize a.eval = ρ at *
    simp [e1, resolve, invoke, builtin, Builtin.len_, run_underlying hu, goInt]
  · rename_i l
    injection h with h; injection h with h1 h2; subst h1 h2
    obtain ⟨A, c, e1, _⟩ := hx
    refine wp_run (w' := w) (v := .int .i64 (l.length : Int)) ?_ (hq _ w (by show _ = _; unfold ilen; rfl) (same_grown w))
    unfold execOp
    generalize a.eval = ρ at *
    simp [e1, resolve, invoke, builtin, Builtin.len_, run_underlying hu, goInt]
  · cases h
theorem qMax_ok (args : Array Operand) (ats : Array TypeId) (h : qMax (args.toList.map G) = some (p, r)) (hG : ∀ x ∈ args.toList, (G x).has E w (a.eval x)) (hq : QOut E w r a ⟨dst, .call ⟨.builtin .max, args, ats⟩, ty, pos, af, none⟩ K) :
    Oper.wp Try.prog ⟨dst, .call ⟨.builtin .max, args, ats⟩, ty, pos, af, none⟩ a w K Q := by
  obtain ⟨al⟩ := args
  simp only at h hG
  match al, h, hG, hq with
  | [], h, _, _ => simp [qMax] at h
  | [x], h, _, _ => simp only [List.map_cons, List.map_nil] at h; cases hx : G x with
    | v b => cases b with
      | s c => cases c <;> simp [hx, qMax] at h
      | agg l => simp [hx, qMax] at h
    | tup l => simp [hx, qMax] at h
  | [x, y], h, hG, hq =>
    simp only [List.map_cons, List.map_nil] at h
    have hx := hG x (by simp)
    have hy := hG y (by simp)
    generalize G x = gx at *
    generalize G y = gy at *
    unfold qMax at h
    split at h
    · rename_i n m e
      injection e with e1 e; injection e with e2 e; subst e1 e2
      injection h with h; injection h with h1 h2; subst h1 h2
      have ex : a.eval x = .int .i64 n := hx
      have ey : a.eval y = .int .i64 m := hy
      refine wp_run (w' := w) (v := .int .i64 (imax n m)) ?_ (hq _ w rfl (same_grown w))
      unfold execOp
      generalize a.eval = ρ at *
      simp [ex, ey, go_sem, resolve, invoke, imax]
      split <;> omega
    · rename_i e; injection e with e1 e; injection e with e2 e; cases e
    · cases h
  | [x, y, z], h, hG, hq =>
    simp only [List.map_cons, List.map_nil] at h
    have hx := hG x (by simp)
    have hy := hG y (by simp)
    have hz := hG z (by simp)
    generalize G x = gx at *
    generalize G y = gy at *
    generalize G z = gz at *
    unfold qMax at h
    split at h
    · rename_i e; injection e with e1 e; injection e with e2 e; cases e
    · rename_i n m k e
      injection e with e1 e; injection e with e2 e; injection e with e3 e; subst e1 e2 e3
      injection h with h; injection h with h1 h2; subst h1 h2
      have ex : a.eval x = .int .i64 n := hx
      have ey : a.eval y = .int .i64 m := hy
      have ez : a.eval z = .int .i64 k := hz
      refine wp_run (w' := w) (v := .int .i64 (imax (imax n m) k)) ?_ (hq _ w rfl (same_grown w))
      unfold execOp
      generalize a.eval = ρ at *
      simp [ex, ey, ez, go_sem, resolve, invoke, imax, Builtin.max_, Builtin.max2]
      repeat' split
      all_goals first
        | omega
        | (simp only [Result.andThen, Result.ok.injEq, Next.value.injEq, Value.int.injEq, true_and, and_true]; omega)
        | trace_state
    · cases h
  | x :: y :: z :: u :: l, h, _, _ =>
    simp only [List.map_cons] at h
    unfold qMax at h
    split at h
    · rename_i e; injection e with e1 e; injection e with e2 e; cases e
    · rename_i e; injection e with e1 e; injection e with e2 e; injection e with e3 e; cases e
    · cases h
theorem qMin_ok (args : Array Operand) (ats : Array TypeId) (h : qMin (args.toList.map G) = some (p, r)) (hG : ∀ x ∈ args.toList, (G x).has E w (a.eval x)) (hq : QOut E w r a ⟨dst, .call ⟨.builtin .min, args, ats⟩, ty, pos, af, none⟩ K) :
    Oper.wp Try.prog ⟨dst, .call ⟨.builtin .min, args, ats⟩, ty, pos, af, none⟩ a w K Q := by
  obtain ⟨al⟩ := args
  simp only at h hG
  match al, h, hG, hq with
  | [], h, _, _ => simp [qMin] at h
  | [x], h, _, _ => simp only [List.map_cons, List.map_nil] at h; cases hx : G x with
    | v b => cases b with
      | s c => cases c <;> simp [hx, qMin] at h
      | agg l => simp [hx, qMin] at h
    | tup l => simp [hx, qMin] at h
  | [x, y], h, hG, hq =>
    simp only [List.map_cons, List.map_nil] at h
    have hx := hG x (by simp)
    have hy := hG y (by simp)
    generalize G x = gx at *
    generalize G y = gy at *
    unfold qMin at h
    split at h
    · rename_i n m e
      injection e with e1 e; injection e with e2 e; subst e1 e2
      injection h with h; injection h with h1 h2; subst h1 h2
      have ex : a.eval x = .int .i64 n := hx
      have ey : a.eval y = .int .i64 m := hy
      refine wp_run (w' := w) (v := .int .i64 (imin n m)) ?_ (hq _ w rfl (same_grown w))
      unfold execOp
      generalize a.eval = ρ at *
      simp [ex, ey, go_sem, resolve, invoke, imin]
      split <;> omega
    · cases h
  | x :: y :: z :: l, h, _, _ =>
    simp only [List.map_cons] at h
    unfold qMin at h
    split at h
    · rename_i e; injection e with e1 e; injection e with e2 e; cases e
    · cases h
end
end Go.Proofs.Ytdpokkegkedlfaa
