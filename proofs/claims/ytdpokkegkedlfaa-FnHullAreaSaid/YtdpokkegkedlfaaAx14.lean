/- The evaluation of code: regions, branches, blocks, loops by an invariant over what is carried; calls. -/
import Derived.Test.YtdpokkegkedlfaaAxN
import Derived.Deep.LoopGhost
namespace Go.Proofs.Ytdpokkegkedlfaa
open Go.RowKit
set_option maxRecDepth 10000
def dstB (N : Nat) : List Oper → Bool
  | [] => true
  | o :: l => okDst N o.dst && dstB N l
inductive XE
  | normal
  | exit (id : Nat)
  | ret
def cutV : List Ent → Nat → Nat
  | [], n => n
  | e :: V, n => match e.path with
    | [] => cutV V (n + 1)
    | _ => n
def pRunM (sig : FuncId → List AV → Option Sg) (σ : St) (ops : List Oper) (m : Nat) : Prop × List Ent × List Oper := match pRun sig σ ops (ops.take m) 0 [] with
  | (p, V, _) => (p, V, ops.drop V.length)
/-- The first part; it ends ahead of the first guard, if what comes behind it is guarded. -/
def pRunC (sig : FuncId → List AV → Option Sg) (σ : St) (ops : List Oper) : Prop × List Ent × List Oper := match pRun sig σ ops ops 0 [] with
  | (p, V, rest) => match rest with
    | [] => (p, V, rest)
    | o :: _ => match o.guard with
      | some _ => pRunM sig σ ops (cutV V 0)
      | none => (p, V, rest)
def hasStore : List Oper → Bool
  | [] => false
  | o :: l => match o.op with
    | .store _ _ _ => true
    | _ => hasStore l
def hasGd : List Oper → Bool
  | [] => false
  | o :: l => match o.guard with
    | some _ => true
    | none => hasGd l
def evVB (sig : FuncId → List AV → Option Sg) (xs : XS) (N : Nat) (ops : List Oper) (W : List Ent) (m : Nat) (σ : St) (k : St → Prop) : Prop :=
  match pRunM sig σ ops m with
  | (p, V, _) => (dstB N ops && acyc ops 0 && coverB W m && V.length == m) = true ∧ p ∧ evAny sig xs N ops ops.length [] (List.range m) (afterPre σ ops V) k
def evVA (sig : FuncId → List AV → Option Sg) (xs : XS) (N : Nat) (ops : List Oper) (W : List Ent) (n : Nat) (σ : St) (k : St → Prop) : Prop :=
  match hasGd (ops.take (cutM W n)) with
  | true => evVB sig xs N ops W (cutM W n) σ k
  | false => evLinR sig xs N ops σ k
def evReg (sig : FuncId → List AV → Option Sg) (xs : XS) (N : Nat) (ops : List Oper) (drawn : Bool) (σ : St) (k : St → Prop) : Prop :=
  match pRunC sig σ ops with
  | (p, V, rest) => match !drawn || fullB V rest V.length with
    | true => (dstB N ops && (!drawn || acyc ops 0)) = true ∧ p ∧ evTail sig xs N ops rest [] [] (afterPre σ ops V) k
    | false => match hasAlloc ops && Nat.ble 8 ops.length with
      | true => evPF sig xs N ops σ k
      | false => match Nat.ble ops.length 12 && !(hasStore ops && Nat.ble 9 ops.length) with
        | true => evLz sig xs N ops (lzOf N ops ops 0) σ k
        | false => evVA sig xs N ops (entW ops []) (pRun sig σ ops ops 0 []).2.1.length σ k
def Cont.gv : Cont → GV
  | .ints l => .ints l
  | .pts l => .pts l
  | .bools l => .bools l
  | .intss l => .intss l
  | .ptss l => .ptss l
  | .boolss l => .boolss l
def GV.ct : GV → Option Cont
  | .ints l => some (.ints l)
  | .pts l => some (.pts l)
  | .bools l => some (.bools l)
  | .intss l => some (.intss l)
  | .ptss l => some (.ptss l)
  | .boolss l => some (.boolss l)
  | _ => none
/-- What of a frame a loop may turn: a slot's own number or reading; the memory to which a slot leads. -/
inductive Vary
  | v (s : Nat)
  | b (s : Nat)
  | f (s i : Nat) (t : TypeId)
/-- A field that is nil is taken for an empty row of the call's own. -/
def nilAt (σ : St) (s i : Nat) : Option (Nat × List SV) := match lookT σ.t s with
  | .s (.ptr k _) => (match lookB σ.b k with
    | some (.box m) => (match m[i]? with
      | some .nil => some (k, m)
      | _ => none)
    | _ => none)
  | _ => none
def prep1 (σ : St) : Vary → St
  | .f s i t => (match nilAt σ s i with
    | some (k, m) => (match tyOf t with
      | some (.sl e c) => ⟨σ.t, (k, .box (m.set i (.row σ.n))) :: (σ.n, .row e c) :: σ.b, σ.n + 1⟩
      | _ => σ)
    | none => σ)
  | _ => σ
def prep : List Vary → St → St
  | [], σ => σ
  | v :: l, σ => prep l (prep1 σ v)
/-- The row to which a variable's field leads. -/
def rowAt (σ : St) (s i : Nat) : Option Nat := match lookT σ.t s with
  | .s (.ptr k _) => (match lookB σ.b k with
    | some (.box m) => (match m[i]? with
      | some (.row r) => some r
      | _ => none)
    | _ => none)
  | _ => none
/-- The numbers of a variable's cells. -/
def boxG : List SV → List GV
  | [] => []
  | .int n :: l => .int n :: boxG l
  | .bool n :: l => .bool n :: boxG l
  | _ :: l => boxG l
def boxF : List SV → List GV → List SV × List GV
  | [], g => ([], g)
  | .int n :: l, g => match g with
    | .int m :: g => (.int m :: (boxF l g).1, (boxF l g).2)
    | g => (.int n :: (boxF l g).1, (boxF l g).2)
  | .bool n :: l, g => match g with
    | .bool m :: g => (.bool m :: (boxF l g).1, (boxF l g).2)
    | g => (.bool n :: (boxF l g).1, (boxF l g).2)
  | s :: l, g => (s :: (boxF l g).1, (boxF l g).2)
/-- The values now. -/
def getG (σ : St) : List Vary → List GV
  | [] => []
  | .v s :: l => (match lookT σ.t s with
    | .s (.int n) => [.int n]
    | .s (.bool n) => [.bool n]
    | .s (.view c) => [c.gv]
    | .agg m => boxG m
    | _ => []) ++ getG σ l
  | .b s :: l => (match lookT σ.t s with
    | .s (.row k) => (match lookB σ.b k with
      | some (.row _ c) => [c.gv]
      | some (.mp l) => [.pts l]
      | _ => [])
    | .s (.ptr k _) => (match lookB σ.b k with
      | some (.box m) => boxG m
      | _ => [])
    | _ => []) ++ getG σ l
  | .f s i _ :: l => (match rowAt σ s i with
    | some r => (match lookB σ.b r with
      | some (.row _ c) => [c.gv]
      | _ => [])
    | none => []) ++ getG σ l
/-- Other values put in their places. -/
def fillG (σ : St) : List Vary → List GV → St
  | [], _ => σ
  | .v s :: l, g => match lookT σ.t s with
    | .s (.int _) => (match g with | .int m :: g => fillG ⟨(s, .s (.int m)) :: σ.t, σ.b, σ.n⟩ l g | g => fillG σ l g)
    | .s (.bool _) => (match g with | .bool m :: g => fillG ⟨(s, .s (.bool m)) :: σ.t, σ.b, σ.n⟩ l g | g => fillG σ l g)
    | .s (.view _) => (match g with
      | x :: g => (match x.ct with
        | some c => fillG ⟨(s, .s (.view c)) :: σ.t, σ.b, σ.n⟩ l g
        | none => fillG σ l g)
      | g => fillG σ l g)
    | .agg m => fillG ⟨(s, .agg (boxF m g).1) :: σ.t, σ.b, σ.n⟩ l (boxF m g).2
    | _ => fillG σ l g
  | .b s :: l, g => match lookT σ.t s with
    | .s (.row k) => (match lookB σ.b k, g with
      | some (.row e _), x :: g => (match x.ct with
        | some c => fillG ⟨σ.t, (k, .row e c) :: σ.b, σ.n⟩ l g
        | none => fillG σ l g)
      | some (.mp _), .pts m :: g => fillG ⟨σ.t, (k, .mp m) :: σ.b, σ.n⟩ l g
      | _, g => fillG σ l g)
    | .s (.ptr k _) => (match lookB σ.b k with
      | some (.box m) => fillG ⟨σ.t, (k, .box (boxF m g).1) :: σ.b, σ.n⟩ l (boxF m g).2
      | _ => fillG σ l g)
    | _ => fillG σ l g
  | .f s i _ :: l, g => match rowAt σ s i with
    | some r => (match lookB σ.b r, g with
      | some (.row e _), x :: g => (match x.ct with
        | some c => fillG ⟨σ.t, (r, .row e c) :: σ.b, σ.n⟩ l g
        | none => fillG σ l g)
      | _, g => fillG σ l g)
    | none => fillG σ l g
/-- The slots that code writes. -/
def regW : List Oper → List Nat
  | [] => []
  | o :: l => match o.dst with
    | some d => d :: regW l
    | none => regW l
def codeW : Code → List Nat
  | .region _ ops _ => regW ops.toList
  | .seq a b => codeW a ++ codeW b
  | .cond _ a b => codeW a ++ codeW b
  | .block _ a => codeW a
  | .loop a => codeW a
  | _ => []
def varyS : List Vary → List Nat
  | [] => []
  | .v s :: l => s :: varyS l
  | .b s :: l => s :: varyS l
  | .f s _ _ :: l => s :: varyS l
/-- The frame at the head of a loop: of the slots that the loop writes only those that it carries. -/
def headT (wr vs : List Nat) : List Nat → List (Nat × AV) → List (Nat × AV)
  | _, [] => []
  | seen, (s, a) :: l => if memN s seen || (memN s wr && !memN s vs) then headT wr vs seen l else match a with
    | .s .top => headT wr vs (s :: seen) l
    | a => (s, a) :: headT wr vs (s :: seen) l
def headB : List Nat → List (Nat × Bx) → List (Nat × Bx)
  | _, [] => []
  | seen, (s, a) :: l => if memN s seen then headB seen l else (s, a) :: headB (s :: seen) l
def keepA : AV → Bool
  | .s (.vptr _ _ _) => false
  | .s (.rptr _ _ _ _) => false
  | _ => true
def headK : List (Nat × AV) → List (Nat × AV)
  | [] => []
  | p :: l => if keepA p.2 then p :: headK l else headK l
def headS (σ : St) (wr vs : List Nat) : St := ⟨headK (headT wr vs [] σ.t), headB [] σ.b, σ.n⟩
/-- How the head's memory lies in a later frame. -/
def mapG (σh σ : St) : List Vary → List (Nat × Nat)
  | [] => []
  | .v _ :: l => mapG σh σ l
  | .f _ _ _ :: l => mapG σh σ l
  | .b s :: l => match lookT σh.t s, lookT σ.t s with
    | .s (.row k), .s (.row k') => (k, k') :: mapG σh σ l
    | .s (.ptr k _), .s (.ptr k' _) => (k, k') :: mapG σh σ l
    | _, _ => mapG σh σ l
def mapN : List (Nat × Nat) → Nat → Nat
  | [], k => k
  | (i, j) :: l, k => if i == k then j else mapN l k
def subS (m : Nat → Nat) : SV → SV → Prop
  | _, .top => True
  | .int a, .int b => a = b
  | .bool a, .bool b => a = b
  | .nil, .nil => True
  | .rdr x, .rdr y => x = y
  | .byt x, .byt y => x = y
  | .bptr x i, .bptr y j => x = y ∧ i = j
  | .u8 x, .u8 y => x = y
  | .view c, .view c' => c = c'
  | .ptr k o, .ptr k' o' => (k == m k' && o == o') = true
  | .row k, .row k' => (k == m k') = true
  | .x v, .x v' => v = v'
  | _, _ => False
def subL (m : Nat → Nat) : List SV → List SV → Prop
  | [], [] => True
  | a :: l, b :: l' => subS m a b ∧ subL m l l'
  | _, _ => False
def subA (m : Nat → Nat) : AV → AV → Prop
  | _, .s .top => True
  | .s a, .s b => subS m a b
  | .agg l, .agg l' => subL m l l'
  | _, _ => False
def subX (m : Nat → Nat) : Option Bx → Bx → Prop
  | some (.box l), .box l' => subL m l l'
  | some (.row e c), .row e' c' => (e == e') = true ∧ c = c'
  | some (.mp l), .mp l' => l = l'
  | _, _ => False
def subT (m : Nat → Nat) (t : List (Nat × AV)) : List (Nat × AV) → Prop
  | [] => True
  | (s, a) :: l => subA m (lookT t s) a ∧ subT m t l
def subB (m : Nat → Nat) (b : List (Nat × Bx)) : List (Nat × Bx) → Prop
  | [] => True
  | (k, x) :: l => subX m (lookB b (m k)) x ∧ subB m b l
/-- Different memory lies in different memory. -/
def injB (m : Nat → Nat) : List (Nat × Bx) → Bool
  | [] => true
  | (k, _) :: l => l.all (fun q => !(m k == m q.1)) && injB m l
def idsT (n : Nat) : List (Nat × AV) → Bool
  | [] => true
  | (_, a) :: l => a.idsOK (fun j => Nat.blt j n) && idsT n l
def idsB (n : Nat) : List (Nat × Bx) → Bool
  | [] => true
  | (k, x) :: l => Nat.blt k n && x.idsOK (fun j => Nat.blt j n) && idsB n l
/-- Of memory that turns, one handle only is kept. -/
def aliasB (σ : St) : List Vary → Nat → AV → Bool
  | [], _, _ => false
  | .b s0 :: l, s, a => (!(s0 == s) && (match a, lookT σ.t s0 with
    | .s (.row k), .s (.row k') => k' == k
    | _, _ => false)) || aliasB σ l s a
  | .f s0 i _ :: l, s, a => (match a, rowAt σ s0 i with
    | .s (.row k), some k' => k' == k
    | _, _ => false) || aliasB σ l s a
  | .v _ :: l, s, a => aliasB σ l s a
def dropA (σ : St) (va : List Vary) : List (Nat × AV) → List (Nat × AV)
  | [] => []
  | (s, a) :: l => if aliasB σ va s a then dropA σ va l else (s, a) :: dropA σ va l
def dropAl (σ : St) (va : List Vary) : St := ⟨dropA σ va σ.t, σ.b, σ.n⟩
/-- All that is said at the head of the frame there holds of the frame here. -/
def sub (σ σh : St) (mp : List (Nat × Nat)) (n : Nat) : Prop :=
  (injB (mapN mp) (headB [] σh.b) && idsT n (headT [] [] [] σh.t) && idsB n (headB [] σh.b) && (mapN mp 0 == 0 && ((lookB σh.b 0).isSome || !(lookB σ.b 0).isSome))) = true ∧ subT (mapN mp) σ.t (headT [] [] [] σh.t) ∧ subB (mapN mp) σ.b (headB [] σh.b)
def ev (sig : FuncId → List AV → Option Sg) (xs : XS) (N : Nat) (va : Nat → List Vary) : Code → Nat → St → (XE → St → Prop) → Prop
  | .skip, _, σ, k => k .normal σ
  | .region _ ops d, _, σ, k => evReg sig xs N ops.toList d σ (k .normal)
  | .seq x y, id, σ, k => ev sig xs N va x id σ fun e σ' => match e with
    | .normal => ev sig xs N va y id σ' k
    | e => k e σ'
  | .cond c x y, id, σ, k => match gS σ c with
    | .v (.s (.bool b)) => (b = true → ev sig xs N va x id σ k) ∧ (b = false → ev sig xs N va y id σ k)
    | _ => False
  | .block i x, _, σ, k => ev sig xs N va x i σ fun e σ' => match e with
    | .exit j => if j == i then k .normal σ' else k (.exit j) σ'
    | e => k e σ'
  | .loop x, id, σ', k =>
    let σ := prep (va id) σ'
    let σz := dropAl (headS σ (codeW x) (varyS (va id))) (va id)
    ∃ (I : List GV → Prop) (μ : List GV → Nat),
      (sub σ (fillG σz (va id) (getG σ (va id))) (mapG σz σ (va id)) σ.n ∧ (getG σ (va id)).map GV.kd = (getG σz (va id)).map GV.kd ∧ I (getG σ (va id))) ∧
      allG ((getG σz (va id)).map GV.kd) fun g => I g → ev sig xs N va x id (fillG σz (va id) g) fun e σ' => match e with
        | .normal => sub σ' (fillG σz (va id) (getG σ' (va id))) (mapG σz σ' (va id)) σ.n ∧ (((getG σ' (va id)).map GV.kd = (getG σz (va id)).map GV.kd) ∧ I (getG σ' (va id)) ∧ μ (getG σ' (va id)) < μ g)
        | e => k e σ'
  | .exit i, _, σ, k => k (.exit i) σ
  | .ret, _, σ, k => k .ret σ
  | _, _, _, _ => False
end Go.Proofs.Ytdpokkegkedlfaa
