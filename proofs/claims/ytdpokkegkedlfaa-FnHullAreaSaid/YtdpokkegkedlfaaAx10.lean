/- Operations that write, one after the other: stores, append, a slice cut short. -/
import Derived.Test.YtdpokkegkedlfaaAx9
namespace Go.Proofs.Ytdpokkegkedlfaa
open Go.RowKit
set_option maxRecDepth 10000
@[irreducible] def setl {α : Type} (l : List (List α)) (i : Int) (m : List α) : List (List α) := l.set i.toNat m
def Cont.put : Cont → Int → Nat → SV → Option Cont
  | .ints l, i, 0, .int x => some (.ints (seti l i x))
  | .pts l, i, 0, .int x => some (.pts (setx l i x))
  | .pts l, i, 1, .int x => some (.pts (sety l i x))
  | .bools l, i, 0, .bool x => some (.bools (setb l i x))
  | .intss l, i, 0, .view (.ints m) => some (.intss (setl l i m))
  | .ptss l, i, 0, .view (.pts m) => some (.ptss (setl l i m))
  | .boolss l, i, 0, .view (.bools m) => some (.boolss (setl l i m))
  | _, _, _, _ => none
def Cont.app : Cont → Cont → Option Cont
  | .ints l, .ints m => some (.ints (iapp l m))
  | .pts l, .pts m => some (.pts (iapp l m))
  | .bools l, .bools m => some (.bools (iapp l m))
  | .intss l, .intss m => some (.intss (iapp l m))
  | .ptss l, .ptss m => some (.ptss (iapp l m))
  | .boolss l, .boolss m => some (.boolss (iapp l m))
  | _, _ => none
def gS (σ : St) : Operand → FV
  | .tmp t => .v (lookT σ.t t)
  | .const v => constFV v
  | .func f => .v (.s (.x (.func (.func f) #[] #[])))
  | .global _ => topFV
def St.setB (σ : St) (j : Nat) (bx : Bx) : St := ⟨σ.t, (j, bx) :: σ.b, σ.n⟩
def St.put (σ : St) (d : Nat) (a : AV) : St := ⟨(d, a) :: σ.t, σ.b, σ.n⟩
def SV.drop (j : Nat) (s : SV) : SV := if s.on j then .top else s
def AV.drop (j : Nat) : AV → AV
  | .s a => .s (a.drop j)
  | .agg l => .agg (l.map (·.drop j))
def Bx.drop (j : Nat) : Bx → Bx
  | .box l => .box (l.map (·.drop j))
  | b => b
def dropT (j : Nat) : List (Nat × AV) → List (Nat × AV)
  | [] => []
  | (s, a) :: l => (s, a.drop j) :: dropT j l
def dropB (j : Nat) : List (Nat × Bx) → List (Nat × Bx)
  | [] => []
  | (s, a) :: l => (s, a.drop j) :: dropB j l
def St.purge (σ : St) (j : Nat) : St := ⟨dropT j σ.t, dropB j σ.b, σ.n⟩
/-- What may be stored into a cell. -/
def SV.cellR : SV → Bool
  | .int _ | .bool _ | .nil | .view _ | .row _ => true
  | _ => false
def rowOK (σ : St) : SV → Bool
  | .row k => match lookB σ.b k with
    | some (.row _ _) => true
    | _ => false
  | _ => true
def mStAgg (σ : St) (t : TypeId) (j o : Nat) (m : List SV) : Option (Prop × St) :=
  match lookB σ.b j, stZ t with
  | some (.box l), some z => if Nat.ble (o + z.length) l.length && m.length == z.length && m.all (fun s => s.cellR && rowOK σ s) then some (True, σ.setB j (.box (l.take o ++ m ++ l.drop (o + z.length)))) else none
  | _, _ => none
def mStOne (σ : St) (t : TypeId) (j o : Nat) (s : SV) : Option (Prop × St) :=
  match lookB σ.b j, tyOf t with
  | some (.box l), some tt => if tt.one && Nat.blt o l.length && s.cellR && rowOK σ s then some (True, σ.setB j (.box (l.set o s))) else none
  | _, _ => none
def mStRAgg (σ : St) (t : TypeId) (j sz : Nat) (i : Int) (o : Nat) : List SV → Option (Prop × St)
  | [.int x, .int y] => match lookB σ.b j, tyOf t with
    | some (.row e (.pts l)), some (.st z) => if z.length == 2 && sz == 2 && o == 0 then some (NLt i (ilen l), σ.setB j (.row e (.pts (setp l i x y)))) else none
    | _, _ => none
  | _ => none
def mStROne (σ : St) (t : TypeId) (j sz : Nat) (i : Int) (o : Nat) (s : SV) : Option (Prop × St) :=
  match lookB σ.b j, tyOf t with
  | some (.row e c), some tt => if tt.one && sz == c.sz then (match c.put i o s with
      | some c' => some (NLt i c.ilen, σ.setB j (.row e c'))
      | none => none) else none
  | _, _ => none
def mStore (σ : St) (t : TypeId) : FV → FV → Option (Prop × St)
  | .v (.s (.ptr j o)), .v (.agg m) => mStAgg σ t j o m
  | .v (.s (.ptr j o)), .v (.s s) => mStOne σ t j o s
  | .v (.s (.rptr j sz i o)), .v (.agg m) => mStRAgg σ t j sz i o m
  | .v (.s (.rptr j sz i o)), .v (.s s) => mStROne σ t j sz i o s
  | _, _ => none
def rdCont (σ : St) (c : Cont) : FV → Option Cont
  | .v (.s (.view c2)) => some c2
  | .v (.s .nil) => (match c with
    | .ints _ => some (.ints [])
    | .pts _ => some (.pts [])
    | .bools _ => some (.bools [])
    | .intss _ => some (.intss [])
    | .ptss _ => some (.ptss [])
    | .boolss _ => some (.boolss []))
  | .v (.s (.row j)) => (match lookB σ.b j with
    | some (.row _ (.ints l)) => some (.ints l)
    | some (.row _ (.pts l)) => some (.pts l)
    | some (.row _ (.bools l)) => some (.bools l)
    | some (.row _ (.intss l)) => some (.intss l)
    | some (.row _ (.ptss l)) => some (.ptss l)
    | some (.row _ (.boolss l)) => some (.boolss l)
    | _ => none)
  | _ => none
def mAppend (σ : St) (d : Nat) (t : TypeId) : FV → FV → Option (Prop × St)
  | .v (.s (.row j)), fx => match lookB σ.b j, tyOf t with
    | some (.row e c), some (.sl e' c0) => if e == e' && c0.sz == c.sz && Nat.blt 0 j then (match rdCont σ c fx with
        | some c2 => (match c.app c2 with
          | some c' => some (NLe c.ilen 1000000000 ∧ NLe c2.ilen 1000000000, ((σ.purge j).setB j (.row e c')).put d (.s (.row j)))
          | none => none)
        | none => none) else none
    | _, _ => none
  | _, _ => none
def mCut (σ : St) (d : Nat) (t : TypeId) : FV → FV → Option (Prop × St)
  | .v (.s (.row j)), .v (.s (.int i)) => match lookB σ.b j, tyOf t with
    | some (.row e c), some (.sl _ c0) => if c0.sz == c.sz && Nat.blt 0 j then some (NLe 0 i ∧ NLe i c.ilen, ((σ.purge j).setB j (.row e (c.cut i))).put d (.s (.row j))) else none
    | _, _ => none
  | _, _ => none
/-! ### What a write leaves -/
theorem drop_has {E : Env} {w : World} {v : Value} {s : SV} (j : Nat) (h : s.has E w v) : (s.drop j).has E w v := by
  unfold SV.drop; split
  · trivial
  · exact h
theorem drop_on {s : SV} {j k : Nat} (h : (s.drop j).on k = true) : s.on k = true ∧ k ≠ j := by
  unfold SV.drop at h
  split at h
  · cases h
  · rename_i hn; exact ⟨h, by rintro rfl; exact hn h⟩
theorem hasL_drop {E : Env} {w : World} (j : Nat) : ∀ {vs : List Value} {l : List SV}, hasL E w vs l → hasL E w vs (l.map (·.drop j))
  | [], [], _ => trivial
  | v :: vs, a :: l, h => ⟨drop_has j h.1, hasL_drop j h.2⟩
  | [], _ :: _, h => h.elim
  | _ :: _, [], h => h.elim
theorem adrop_has {E : Env} {w : World} {v : Value} {a : AV} (j : Nat) (h : a.has E w v) : (a.drop j).has E w v := by
  cases a with
  | s a => exact drop_has j h
  | agg l => obtain ⟨cs, h1, h2⟩ := h; exact ⟨cs, h1, hasL_drop j h2⟩
theorem adrop_on {a : AV} {j k : Nat} (h : (a.drop j).on k = true) : a.on k = true ∧ k ≠ j := by
  cases a with
  | s a => exact drop_on h
  | agg l =>
    obtain ⟨s, hs, hk⟩ := List.any_eq_true.1 h
    obtain ⟨s', hs', rfl⟩ := List.mem_map.1 hs
    obtain ⟨h1, h2⟩ := drop_on hk
    exact ⟨List.any_eq_true.2 ⟨s', hs', h1⟩, h2⟩
theorem lookT_drop (j : Nat) : ∀ (l : List (Nat × AV)) (s : Nat), lookT (dropT j l) s = (lookT l s).drop j
  | [], s => by simp [dropT, lookT, AV.drop, SV.drop, SV.on]
  | (k, a) :: l, s => by
    simp only [dropT, lookT]
    split
    · rfl
    · exact lookT_drop j l s
theorem lookB_drop (j : Nat) : ∀ (l : List (Nat × Bx)) (s : Nat), lookB (dropB j l) s = (lookB l s).map (·.drop j)
  | [], s => rfl
  | (k, a) :: l, s => by
    simp only [dropB, lookB]
    split
    · rfl
    · exact lookB_drop j l s
section
variable {sig : FuncId → List AV → Option Sg} {σ : St} {base : Base} {N : Nat} {E : Env} {a : Act} {w : World}
theorem gS_has (h : Rel base N σ E a w) (x : Operand) : (gS σ x).has E w (a.eval x) := by
  cases x with
  | tmp t => exact h.slots t
  | const v => exact constFV_has v
  | func f => exact rfl
  | global g => trivial
theorem gS_on (h : Rel base N σ E a w) (x : Operand) (k : Nat) (hk : (gS σ x).on k = true) : k < σ.n := by
  cases x with
  | tmp t => exact h.sids t k hk
  | const v => simp only [gS, constFV] at hk; split at hk <;> cases hk
  | func f => cases hk
  | global g => cases hk
/-- The slot is written with what is known. -/
theorem Rel.put {d : Nat} {av : AV} {v : Value} (h : Rel base N σ E a w) (hd : d < N) (hv : av.has E w v) (hon : ∀ k, av.on k = true → k < σ.n) : Rel base N (σ.put d av) E (a.put (some d) v) w := by
  refine ⟨by simp [Act.put, h.size], h.defers, h.bel, fun s => ?_, fun s k hk => ?_, h.bids, h.mem, h.dist, h.fr⟩
  · rw [put_get (by rw [h.size]; exact hd)]
    show (lookT ((d, av) :: σ.t) s).has E w _
    simp only [lookT]
    by_cases hs : d = s
    · subst hs
      rw [if_pos rfl]
      simp only [beq_self_eq_true, if_true]
      exact hv
    · rw [if_neg (Ne.symm hs), if_neg (by simpa using hs)]
      exact h.slots s
  · have hk' : (lookT ((d, av) :: σ.t) s).on k = true := hk
    simp only [lookT] at hk'
    split at hk'
    · exact hon k hk'
    · exact h.sids s k hk'
theorem Rel.none {v : Value} (h : Rel base N σ E a w) : Rel base N σ E (a.put .none v) w := h
/-- The world has only grown. -/
theorem Rel.grow {w' : World} (h : Rel base N σ E a w) (hg : w.grownBy w' Option.none) : Rel base N σ E a w' :=
  ⟨h.size, h.defers, gtrans h.bel hg (fun _ _ e => by cases e), fun s => AV.has_evo (grown_evo hg) (fun _ _ => rfl) (h.slots s), h.sids, h.bids, mem_grow h.mem hg, h.dist, h.fr⟩
theorem Bx.idsOK_mono {p q : Nat → Bool} {b : Bx} (h : b.idsOK p = true) (hpq : ∀ k, p k = true → q k = true) : b.idsOK q = true := by
  cases b with
  | row e c => rfl
  | mp l => rfl
  | box l =>
    refine List.all_eq_true.2 fun s hs => ?_
    have := List.all_eq_true.1 h s hs
    cases s <;> first | rfl | exact hpq _ this
/-- New memory. -/
theorem Rel.new {v : Value} {bx : Bx} {w' : World} (h : Rel base N σ E a w) (hg : w.grownBy w' Option.none) (hbx : bx.ok base.bn (E.new σ.n v) w' v) (hfr : ∀ b, blk v = some b → w.heap.size ≤ b) (hid : bx.idsOK (fun j => Nat.blt j σ.n) = true) :
    Rel base N ⟨σ.t, (σ.n, bx) :: σ.b, σ.n + 1⟩ (E.new σ.n v) a w' := by
  have hne : ∀ k bx, lookB σ.b k = some bx → k ≠ σ.n := fun k bx hk => by have := (h.bids k bx hk).1; omega
  have hcase : ∀ k b, lookB ((σ.n, bx) :: σ.b) k = some b → (k = σ.n ∧ b = bx) ∨ (k ≠ σ.n ∧ lookB σ.b k = some b) := by
    intro k b hk
    simp only [lookB] at hk
    split at hk
    · rename_i he; injection hk with hk; exact .inl ⟨(beq_iff_eq.1 he).symm, hk.symm⟩
    · rename_i he; exact .inr ⟨fun e => he (by simp [e]), hk⟩
  refine ⟨h.size, h.defers, gtrans h.bel hg (fun _ _ e => by cases e), fun s => AV.has_evo (new_evo hg hfr) (fun k hk => new_hd (by have := h.sids s k hk; omega)) (h.slots s), fun s k hk => by have := h.sids s k hk; show k < σ.n + 1; omega, fun k b hk => ?_, ?_, ?_,
    ⟨h.fr.big, h.fr.l0lt, fun k b g hk hb => ?_, fun b hb => .inl (h.fr.l0 b hb), fun hx => ?_, Nat.succ_pos _⟩⟩
  · rcases hcase k b hk with ⟨rfl, rfl⟩ | ⟨_, hk'⟩
    · exact ⟨by show σ.n < σ.n + 1; omega, Bx.idsOK_mono hid fun k hk => blt_iff.2 (by have := blt_iff.1 hk; show k < σ.n + 1; omega)⟩
    · obtain ⟨h1, h2⟩ := h.bids k b hk'
      exact ⟨by show k < σ.n + 1; omega, Bx.idsOK_mono h2 fun k hk => blt_iff.2 (by have := blt_iff.1 hk; show k < σ.n + 1; omega)⟩
  · refine mem_new h.mem hg hfr hbx hcase fun k b hk l hl s hs => ?_
    cases hon : s.on σ.n with
    | false => rfl
    | true => have := blt_iff.1 (Bx.idsOK_on (h.bids k b hk).2 l hl s hs _ hon); omega
  · intro k k' b b' g h1 h2 hk hk'
    rcases hcase k b h1 with ⟨rfl, rfl⟩ | ⟨hn1, h1'⟩
    · rcases hcase k' b' h2 with ⟨rfl, rfl⟩ | ⟨hn2, h2'⟩
      · rfl
      · exfalso
        rw [new_hd_self] at hk
        rw [new_hd hn2] at hk'
        have := hfr g hk
        have := (Bx.ok_lt (h.mem.ok k' b' h2') hk').2
        omega
    · rcases hcase k' b' h2 with ⟨rfl, rfl⟩ | ⟨hn2, h2'⟩
      · exfalso
        rw [new_hd_self] at hk'
        rw [new_hd hn1] at hk
        have := hfr g hk'
        have := (Bx.ok_lt (h.mem.ok k b h1') hk).2
        omega
      · rw [new_hd hn1] at hk
        rw [new_hd hn2] at hk'
        exact h.dist k k' b b' g h1' h2' hk hk'
  · rcases hcase k b hk with ⟨rfl, rfl⟩ | ⟨hn, hk'⟩
    · rw [new_hd_self] at hb
      exact .inl (Nat.le_trans h.bel.size (hfr g hb))
    · rw [new_hd hn] at hb
      exact h.fr.own k b g hk' hb
  · obtain ⟨⟨bx0, h1⟩, h2⟩ := h.fr.xid hx
    have hn0 : 0 ≠ σ.n := by have := h.fr.pos; omega
    exact ⟨⟨bx0, by simp only [lookB]; rw [if_neg (by simpa using hn0.symm)]; exact h1⟩, by rw [new_hd hn0]; exact h2⟩
theorem setB_same {σ : St} {j : Nat} {bx : Bx} {k : Nat} (h : ∃ b, lookB σ.b k = some b) : ∃ b, lookB (σ.setB j bx).b k = some b := by
  simp only [St.setB, lookB]
  split
  · exact ⟨_, rfl⟩
  · exact h
theorem setB_look {σ : St} {j k : Nat} {bx b : Bx} (h : lookB (σ.setB j bx).b k = some b) : (k = j ∧ b = bx) ∨ (k ≠ j ∧ lookB σ.b k = some b) := by
  simp only [St.setB, lookB] at h
  split at h
  · rename_i he; injection h with h; exact .inl ⟨(beq_iff_eq.1 he).symm, h.symm⟩
  · rename_i he; exact .inr ⟨fun e => he (by simp [e]), h⟩
/-- A block of the call's own is written, its handle stays. -/
theorem Rel.write {j g : Nat} {bx0 bx : Bx} {w' : World} (h : Rel base N σ E a w) (hj : lookB σ.b j = some bx0) (hb : blk (E.hd j) = some g) (hg : w.grownBy w' (some g))
    (hbx : bx.ok base.bn E w' (E.hd j)) (hid : bx.idsOK (fun k => Nat.blt k σ.n) = true) : Rel base N (σ.setB j bx) E a w' := by
  have hlv := h.mem.lv j bx0 g hj hb
  have hev : Evo E E w w' := ⟨hg.size, fun b hb hn => hg.block b hb (fun e => by injection e with e; subst e; exact hn hlv), fun _ _ h => h, fun _ h => h⟩
  refine ⟨h.size, h.defers, gtrans h.bel hg (fun i hi e => by
    injection e with e; subst e
    rcases h.fr.X hj hb with h1 | h1
    · omega
    · exact h1), fun s => AV.has_evo hev (fun _ _ => rfl) (h.slots s), h.sids, fun k b hk => ?_, ⟨h.mem.lt.grow hg (fun b e => by injection e with e; subst e; exact hlv), fun k b hk => ?_, fun k b g' hk hg' => ?_⟩, fun k k' b b' g' h1 h2 => ?_, ⟨h.fr.big, h.fr.l0lt, fun k b g' hk hg' => ?_, h.fr.l0, fun hx => ⟨setB_same (h.fr.xid hx).1, (h.fr.xid hx).2⟩, h.fr.pos⟩⟩
  · rcases setB_look hk with ⟨rfl, rfl⟩ | ⟨_, hk'⟩
    · exact ⟨(h.bids k bx0 hj).1, hid⟩
    · exact h.bids k b hk'
  · rcases setB_look hk with ⟨rfl, rfl⟩ | ⟨hne, hk'⟩
    · exact hbx
    · refine Bx.ok_evo hev (fun g' hg' => hg.block g' (Bx.ok_lt (h.mem.ok k b hk') hg').2 (fun e => ?_)) (fun _ _ _ _ _ _ => rfl) (h.mem.ok k b hk')
      injection e with e; subst e
      exact hne (h.dist k j b bx0 g' hk' hj hg' hb)
  · rcases setB_look hk with ⟨rfl, rfl⟩ | ⟨hne, hk'⟩
    · exact h.mem.lv k bx0 g' hj hg'
    · exact h.mem.lv k b g' hk' hg'
  · rcases setB_look h1 with ⟨rfl, rfl⟩ | ⟨hn1, h1'⟩ <;> rcases setB_look h2 with ⟨rfl, rfl⟩ | ⟨hn2, h2'⟩
    · intro _ _; rfl
    · exact h.dist k k' bx0 b' g' hj h2'
    · exact h.dist k k' b bx0 g' h1' hj
    · exact h.dist k k' b b' g' h1' h2'
  · rcases setB_look hk with ⟨rfl, rfl⟩ | ⟨_, hk'⟩
    · exact h.fr.own k bx0 g' hj hg'
    · exact h.fr.own k b g' hk' hg'
/-- A block of the call's own is written, or left for a new one; its handle turns. -/
theorem Rel.turn {j : Nat} {bx0 bx : Bx} {v : Value} {w' : World} (hj0 : 0 < j) (h : Rel base N σ E a w) (hj : lookB σ.b j = some bx0) (hg : w.grownBy w' (blk (E.hd j))) (hv : ∀ b, blk v = some b → blk (E.hd j) = some b ∨ w.heap.size ≤ b)
    (hbx : bx.ok base.bn (E.new j v) w' v) (hno : ∀ l, bx ≠ .box l) : Rel base N ((σ.purge j).setB j bx) (E.new j v) a w' := by
  have hlt : ∀ g, blk (E.hd j) = some g → base.w.heap.size ≤ g ∧ g < w.heap.size := fun g hg => ⟨by rcases h.fr.own j bx0 g hj hg with h1 | ⟨h1, _⟩ <;> omega, (Bx.ok_lt (h.mem.ok j bx0 hj) hg).2⟩
  have hlv : ∀ g, blk (E.hd j) = some g → E.lv g := fun g hg => h.mem.lv j bx0 g hj hg
  have hev : Evo E (E.new j v) w w' := ⟨hg.size, fun b hb hn => hg.block b hb (fun e => hn (hlv b e.symm)), fun b hb hl => by
    rcases hl with hl | hl
    · exact hl
    · rcases hv b hl with h1 | h1
      · exact hlv b h1
      · omega, fun _ h => h⟩
  have hcase : ∀ k b, lookB ((σ.purge j).setB j bx).b k = some b → (k = j ∧ b = bx) ∨ (k ≠ j ∧ ∃ b', lookB σ.b k = some b' ∧ b = b'.drop j) := by
    intro k b hk
    rcases setB_look hk with h1 | ⟨h1, h2⟩
    · exact .inl h1
    · refine .inr ⟨h1, ?_⟩
      simp only [St.purge, lookB_drop] at h2
      obtain ⟨b', h3, h4⟩ := Option.map_eq_some_iff.1 h2
      exact ⟨b', h3, h4.symm⟩
  have hdrop : ∀ (b : Bx) (v : Value) (E : Env) (w : World), b.ok base.bn E w v → (b.drop j).ok base.bn E w v := by
    intro b v E w hb
    cases b with
    | row e c => exact hb
    | mp l => exact hb
    | box l => obtain ⟨g, cs, e, h1, h2, h3, h4⟩ := hb; exact ⟨g, cs, e, h1, h2, h3, hasL_drop j h4⟩
  have hdon : ∀ (b : Bx) l, b.drop j = .box l → ∀ s ∈ l, ∀ k, s.on k = true → k ≠ j := by
    intro b l hb s hs k hk
    cases b with
    | row e c => cases hb
    | mp l => cases hb
    | box m =>
      injection hb with hb; subst hb
      obtain ⟨s', _, rfl⟩ := List.mem_map.1 hs
      exact (drop_on hk).2
  refine ⟨h.size, h.defers, gtrans h.bel hg (fun i hi e => by have := (hlt i e).1; omega), fun s => ?_, fun s k hk => ?_, fun k b hk => ?_, ⟨⟨fun b hb => ?_, (h.mem.lt.grow hg (fun b e => hlv b e)).inv⟩, fun k b hk => ?_, fun k b g' hk hg' => ?_⟩, fun k k' b b' g' h1 h2 => ?_, ⟨h.fr.big, h.fr.l0lt, fun k b g' hk hg' => ?_, fun b hb => .inl (h.fr.l0 b hb), fun hx => ?_, h.fr.pos⟩⟩
  · show (lookT (dropT j σ.t) s).has _ _ _
    rw [lookT_drop]
    exact AV.has_evo hev (fun k hk => new_hd (adrop_on hk).2) (adrop_has j (h.slots s))
  · have hk' : (lookT (dropT j σ.t) s).on k = true := hk
    rw [lookT_drop] at hk'
    exact h.sids s k (adrop_on hk').1
  · rcases hcase k b hk with ⟨rfl, rfl⟩ | ⟨_, b', h1, rfl⟩
    · refine ⟨(h.bids k bx0 hj).1, ?_⟩
      cases b with
      | row e c => rfl
      | mp l => rfl
      | box l => exact absurd rfl (hno l)
    · obtain ⟨h2, h3⟩ := h.bids k b' h1
      refine ⟨h2, ?_⟩
      cases b' with
      | row e c => rfl
      | mp l => rfl
      | box l =>
        refine List.all_eq_true.2 fun s hs => ?_
        obtain ⟨s', hs', rfl⟩ := List.mem_map.1 hs
        have h4 := List.all_eq_true.1 h3 s' hs'
        show SV.idsOK _ (SV.drop j s') = true
        unfold SV.drop
        split
        · rfl
        · exact h4
  · rcases hb with hb | hb
    · exact (h.mem.lt.grow hg (fun b e => hlv b e)).lt' b hb
    · exact ⟨(hv b hb).elim (fun e => (h.mem.lt.lt' b (hlv b e)).1) (fun e => Nat.le_trans h.mem.lt.inv.ng e), (Bx.ok_lt hbx hb).2⟩
  · rcases hcase k b hk with ⟨rfl, rfl⟩ | ⟨hne, b', h1, rfl⟩
    · rw [new_hd_self]; exact hbx
    · rw [new_hd hne]
      refine Bx.ok_evo hev (fun g' hg' => hg.block g' (Bx.ok_lt (h.mem.ok k b' h1) hg').2 (fun e => hne (h.dist k j b' bx0 g' h1 hj hg' e.symm))) (fun l hl s hs k' hk' => new_hd (hdon b' l hl s hs k' hk')) (hdrop b' _ _ _ (h.mem.ok k b' h1))
  · rcases hcase k b hk with ⟨rfl, rfl⟩ | ⟨hne, b', h1, rfl⟩
    · rw [new_hd_self] at hg'; exact .inr hg'
    · rw [new_hd hne] at hg'; exact .inl (h.mem.lv k b' g' h1 hg')
  · have key : ∀ k b g', k ≠ j → lookB σ.b k = some b → blk (E.hd k) = some g' → blk v = some g' → False := by
      intro k b g' hne hb hk hv'
      rcases hv g' hv' with h3 | h3
      · exact hne (h.dist k j b bx0 g' hb hj hk h3)
      · have := (Bx.ok_lt (h.mem.ok k b hb) hk).2; omega
    intro hk hk'
    rcases hcase k b h1 with ⟨rfl, rfl⟩ | ⟨hn1, c1, h1', rfl⟩ <;> rcases hcase k' b' h2 with ⟨rfl, rfl⟩ | ⟨hn2, c2, h2', rfl⟩
    · rfl
    · rw [new_hd_self] at hk; rw [new_hd hn2] at hk'; exact (key k' c2 g' hn2 h2' hk' hk).elim
    · rw [new_hd_self] at hk'; rw [new_hd hn1] at hk; exact (key k c1 g' hn1 h1' hk hk').elim
    · rw [new_hd hn1] at hk; rw [new_hd hn2] at hk'; exact h.dist k k' c1 c2 g' h1' h2' hk hk'
  · rcases hcase k b hk with ⟨rfl, rfl⟩ | ⟨hne, b', h1, rfl⟩
    · rw [new_hd_self] at hg'
      rcases hv g' hg' with h2 | h2
      · exact .inl (hlt g' h2).1
      · exact .inl (Nat.le_trans h.bel.size h2)
    · rw [new_hd hne] at hg'
      exact h.fr.own k b' g' h1 hg'
  · obtain ⟨⟨b0, h1⟩, h2⟩ := h.fr.xid hx
    have hn0 : 0 ≠ j := by omega
    exact ⟨setB_same (σ := σ.purge j) ⟨b0.drop j, by simp only [St.purge, lookB_drop, h1, Option.map_some]⟩, by rw [new_hd hn0]; exact h2⟩
theorem cells_one {L : Nat → Prop} {xs : List Value} {c : Cont} (h : CellsOK L w xs c) : ∀ u ∈ xs, u.oneCell' = true := by
  intro u hu
  have nest : ∀ {sz n : Nat} {ys : List Value}, Flat L w u sz n ys → u.oneCell' = true := fun hf => by obtain ⟨A, cap, e, _⟩ := hf; rw [e]; rfl
  cases c with
  | ints l => simp only [CellsOK] at h; subst h; obtain ⟨_, _, rfl⟩ := List.mem_map.1 hu; rfl
  | bools l => simp only [CellsOK] at h; subst h; obtain ⟨_, _, rfl⟩ := List.mem_map.1 hu; rfl
  | pts l =>
    simp only [CellsOK] at h; subst h
    obtain ⟨p, _, hp⟩ := List.mem_flatMap.1 hu
    simp at hp
    rcases hp with rfl | rfl <;> rfl
  | intss l =>
    obtain ⟨j, hj⟩ := List.getElem?_of_mem hu
    have hjl : j < xs.length := (List.getElem?_eq_some_iff.1 hj).1
    exact nest (h.2 j u _ hj (List.getElem?_eq_getElem (by have := h.1; omega)))
  | ptss l =>
    obtain ⟨j, hj⟩ := List.getElem?_of_mem hu
    have hjl : j < xs.length := (List.getElem?_eq_some_iff.1 hj).1
    exact nest (h.2 j u _ hj (List.getElem?_eq_getElem (by have := h.1; omega)))
  | boolss l =>
    obtain ⟨j, hj⟩ := List.getElem?_of_mem hu
    have hjl : j < xs.length := (List.getElem?_eq_some_iff.1 hj).1
    exact nest (h.2 j u _ hj (List.getElem?_eq_getElem (by have := h.1; omega)))
theorem nest_app {α : Type} {sz : Nat} {f : List α → List Value} {L : Nat → Prop} {xs ys : List Value} {l m : List (List α)} (h1 : xs.length = l.length ∧ ∀ (i : Nat) u n, xs[i]? = some u → l[i]? = some n → Flat L w u sz n.length (f n))
    (h2 : ys.length = m.length ∧ ∀ (i : Nat) u n, ys[i]? = some u → m[i]? = some n → Flat L w u sz n.length (f n)) : (xs ++ ys).length = (iapp l m).length ∧ ∀ (i : Nat) u n, (xs ++ ys)[i]? = some u → (iapp l m)[i]? = some n → Flat L w u sz n.length (f n) := by
  unfold iapp
  refine ⟨by simp [h1.1, h2.1], fun i u n hu hn => ?_⟩
  rw [List.getElem?_append] at hu hn
  by_cases hi : i < xs.length
  · rw [if_pos hi] at hu; rw [if_pos (by omega)] at hn; exact h1.2 i u n hu hn
  · rw [if_neg hi] at hu; rw [if_neg (by omega)] at hn; exact h2.2 _ u n hu (by rw [h1.1]; exact hn)
theorem cells_app {L : Nat → Prop} {xs ys : List Value} {c c2 c' : Cont} (h1 : CellsOK L w xs c) (h2 : CellsOK L w ys c2) (h : c.app c2 = some c') : CellsOK L w (xs ++ ys) c' ∧ c'.len = c.len + c2.len ∧ c'.sz = c.sz ∧ c2.sz = c.sz := by
  cases c <;> cases c2 <;> simp only [Cont.app] at h <;> try cases h
  all_goals simp only [CellsOK] at h1 h2 ⊢
  · subst h1 h2; exact ⟨by simp [iapp], by simp [Cont.len, iapp], rfl, rfl⟩
  · subst h1 h2; exact ⟨by simp [iapp, ptCells], by simp [Cont.len, iapp], rfl, rfl⟩
  · subst h1 h2; exact ⟨by simp [iapp], by simp [Cont.len, iapp], rfl, rfl⟩
  · exact ⟨nest_app (sz := 1) (f := fun m => m.map (Value.int .i64)) h1 h2, by simp [Cont.len, iapp], rfl, rfl⟩
  · exact ⟨nest_app (sz := 2) (f := ptCells) h1 h2, by simp [Cont.len, iapp], rfl, rfl⟩
  · exact ⟨nest_app (sz := 1) (f := fun m => m.map Value.bool) h1 h2, by simp [Cont.len, iapp], rfl, rfl⟩
end
end Go.Proofs.Ytdpokkegkedlfaa
