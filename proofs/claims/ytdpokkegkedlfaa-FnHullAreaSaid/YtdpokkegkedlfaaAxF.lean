/- Contracts as they are handed from function to function. -/
import Derived.Test.YtdpokkegkedlfaaAx16
set_option maxRecDepth 100000
namespace Go.Proofs.Ytdpokkegkedlfaa
open Go.RowKit
def codeOf (f : Func) : Code := f.body.getD .skip
/-- What a function does, for all readings of its arguments of which g tells. -/
def FunOK (f : FuncId) (g : List AV → Option Sg) : Prop :=
  ∀ avs sg, g avs = some sg → sg.need → ∀ (L0 : Nat → Prop) (args : Array Value) (w : World), LtI L0 w → hasA (EL L0) w args.toList avs →
    (callFunc f args).run Try.prog w = .ok (.enter f args) w ∧
    Calls Try.prog f args w fun e w' => ∃ v, e = .returned v ∧ retOK w.heap.size L0 w' v sg.ret ∧ Bel w w'
def sigL : List (FuncId × (List AV → Option Sg)) → FuncId → List AV → Option Sg
  | [], _, _ => none
  | (i, g) :: l, f, avs => if f == i then g avs else sigL l f avs
theorem sigL_ok : ∀ {l : List (FuncId × (List AV → Option Sg))}, (∀ p ∈ l, FunOK p.1 p.2) → SigOK (sigL l)
  | [], _ => by intro f avs sg h; cases h
  | (i, g) :: l, hl => by
    intro f avs sg h
    simp only [sigL] at h
    split at h
    · rename_i hf
      obtain rfl := beq_iff_eq.1 hf
      exact hl (f, g) (List.mem_cons_self ..) avs sg h
    · exact sigL_ok (fun p hp => hl p (List.mem_cons_of_mem _ hp)) f avs sg h
theorem sigL_nil : SigOK (sigL []) := fun _ _ _ h => by cases h
theorem sigL_cons {i : FuncId} {g : List AV → Option Sg} {l : List (FuncId × (List AV → Option Sg))} (h : FunOK i g) (hl : SigOK (sigL l)) : SigOK (sigL ((i, g) :: l)) := by
  intro f avs sg hs
  simp only [sigL] at hs
  split at hs
  · rename_i hf
    obtain rfl := beq_iff_eq.1 hf
    exact h avs sg hs
  · exact hl f avs sg hs
theorem callFunc_enter {f : FuncId} {fn : Func} (hf : Try.prog.funcs[f]? = some fn) (hb : fn.body.isNone = false) (hn : (fn.name == "runtime.NumGoroutine") = false) (args : Array Value) (w : World) : (callFunc f args).run Try.prog w = .ok (.enter f args) w := by
  unfold callFunc
  simp only [Sem.run_bind, run_program, Result.andThen_ok, hf, hb, hn]
  rfl
/-- What is known of the lengths of arguments. -/
def Cont.lenOK : Cont → Prop
  | .ints l => Ytdpokkegkedlfaa.ilen l ≤ 9223372036854775807
  | .pts l => Ytdpokkegkedlfaa.ilen l ≤ 9223372036854775807
  | .bools l => Ytdpokkegkedlfaa.ilen l ≤ 9223372036854775807
  | .intss l => Ytdpokkegkedlfaa.ilen l ≤ 9223372036854775807 ∧ ∀ m ∈ l, Ytdpokkegkedlfaa.ilen m ≤ 9223372036854775807
  | .ptss l => Ytdpokkegkedlfaa.ilen l ≤ 9223372036854775807 ∧ ∀ m ∈ l, Ytdpokkegkedlfaa.ilen m ≤ 9223372036854775807
  | .boolss l => Ytdpokkegkedlfaa.ilen l ≤ 9223372036854775807 ∧ ∀ m ∈ l, Ytdpokkegkedlfaa.ilen m ≤ 9223372036854775807
def SV.lenOK : SV → Prop
  | .view c => c.lenOK
  | _ => True
def lenL : List SV → Prop
  | [] => True
  | s :: l => s.lenOK ∧ lenL l
def lenA : List AV → Prop
  | [] => True
  | .s s :: l => s.lenOK ∧ lenA l
  | .agg m :: l => lenL m ∧ lenA l
theorem flat_len {L : Nat → Prop} {w : World} {v : Value} {sz n : Nat} {xs : List Value} (h : Flat L w v sz n xs) : (n : Int) ≤ 9223372036854775807 := by
  obtain ⟨A, cap, -, h1, h2, -⟩ := h
  have : maxLen = 9223372036854775807 := by decide
  omega
theorem inner_len {α : Type} {L : Nat → Prop} {w : World} {xs : List Value} {l : List (List α)} {sz : Nat} {f : List α → List Value} (h : xs.length = l.length ∧ ∀ (i : Nat) u m, xs[i]? = some u → l[i]? = some m → Flat L w u sz m.length (f m)) :
    ∀ m ∈ l, ilen m ≤ 9223372036854775807 := by
  intro m hm
  obtain ⟨k, hk, rfl⟩ := List.getElem_of_mem hm
  unfold ilen
  exact flat_len (h.2 k _ _ (List.getElem?_eq_getElem (by omega)) (List.getElem?_eq_getElem hk))
theorem reads_len {L : Nat → Prop} {w : World} {v : Value} {c : Cont} (h : Reads L w v c) : c.lenOK := by
  obtain ⟨xs, h1, h2⟩ := h
  have := flat_len h1
  cases c with
  | ints l => unfold Cont.lenOK; unfold ilen; exact this
  | pts l => unfold Cont.lenOK; unfold ilen; exact this
  | bools l => unfold Cont.lenOK; unfold ilen; exact this
  | intss l => exact ⟨by unfold ilen; exact this, inner_len h2⟩
  | ptss l => exact ⟨by unfold ilen; exact this, inner_len h2⟩
  | boolss l => exact ⟨by unfold ilen; exact this, inner_len h2⟩
theorem hasL_len {E : Env} {w : World} : ∀ {vs : List Value} {l : List SV}, hasL E w vs l → lenL l
  | [], [], _ => trivial
  | [], _ :: _, h => h.elim
  | _ :: _, [], h => h.elim
  | v :: vs, s :: l, h => by
    refine ⟨?_, hasL_len h.2⟩
    cases s <;> first | trivial | exact reads_len h.1
theorem hasA_len {E : Env} {w : World} : ∀ {vs : List Value} {l : List AV}, hasA E w vs l → lenA l
  | [], [], _ => trivial
  | [], _ :: _, h => h.elim
  | _ :: _, [], h => h.elim
  | v :: vs, .s s :: l, h => by
    refine ⟨?_, hasA_len h.2⟩
    cases s <;> first | trivial | exact reads_len h.1
  | v :: vs, .agg m :: l, h => by
    obtain ⟨cs, -, h1⟩ := h.1
    exact ⟨hasL_len h1, hasA_len h.2⟩
def FunX (f : FuncId) (g : Bx → List AV → Option SgX) : Prop :=
  ∀ bx avs sg, g bx avs = some sg → sg.need → ∀ (L0 : Nat → Prop) (v0 : Value) (args : List Value) (w : World), LtI L0 w → (∀ b, blk v0 = some b → L0 b) → bx.ok 0 (EL L0) w v0 → hasA (EL L0) w args avs →
    (callFunc f (v0 :: args).toArray).run Try.prog w = .ok (.enter f (v0 :: args).toArray) w ∧
    Calls Try.prog f (v0 :: args).toArray w fun e w' => ∃ v g, e = .returned v ∧ g.map GV.kd = sg.kinds ∧ sg.post g ∧ retOK w.heap.size L0 w' v (sg.ret g) ∧ (sg.out g).ok 0 (EL (retL L0 v (sg.ret g))) w' v0 ∧ bxFree (sg.out g) = true ∧ w.grownBy w' (blk v0)
def xsigL : List (FuncId × (Bx → List AV → Option SgX)) → FuncId → Bx → List AV → Option SgX
  | [], _, _, _ => none
  | (i, g) :: l, f, bx, avs => if f == i then g bx avs else xsigL l f bx avs
theorem xsigL_nil : XOK (xsigL []) := fun _ _ _ _ h => by cases h
theorem xsigL_cons {i : FuncId} {g : Bx → List AV → Option SgX} {l : List (FuncId × (Bx → List AV → Option SgX))} (h : FunX i g) (hl : XOK (xsigL l)) : XOK (xsigL ((i, g) :: l)) := by
  intro f bx avs sg hs
  simp only [xsigL] at hs
  split at hs
  · rename_i hf
    obtain rfl := beq_iff_eq.1 hf
    exact h bx avs sg hs
  · exact hl f bx avs sg hs
theorem fun_F {f : FuncId} {fn : Func} {sig : FuncId → List AV → Option Sg} {xs : XS} {g : List AV → Option Sg} (hm : Try.prog.follows .mixedOrders = true) (hf : Try.prog.funcs[f]? = some fn) (hb : fn.body = some (codeOf fn))
    (hn : (fn.name == "runtime.NumGoroutine") = false) (hsig : SigOK sig) (hxs : XSigOK xs)
    (h : ∀ avs sg, g avs = some sg → sg.need → lenA avs → (avs.all (·.freeA) && Nat.ble avs.length fn.ntmps && Nat.ble fn.results.toList.length 5 && Nat.ble 0 fn.results.toList.length) = true ∧
      ∃ va, ev sig xs fn.ntmps va (codeOf fn) 0 (initS avs) (retK fn.results.toList sg.ret)) : FunOK f g := by
  intro avs sg hg hneed L0 args w hL hA
  obtain ⟨h1, va, h2⟩ := h avs sg hg hneed (hasA_len hA)
  exact ⟨callFunc_enter hf (by rw [hb]; rfl) hn args w, fun_ok hsig hxs hm hf hb hL hA h1 h2⟩
def lenB : Bx → Prop
  | .box l => lenL l
  | .row _ c => c.lenOK
  | .mp _ => True
theorem fun_X {f : FuncId} {fn : Func} {sig : FuncId → List AV → Option Sg} {xs : XS} {g : Bx → List AV → Option SgX} (hm : Try.prog.follows .mixedOrders = true) (hf : Try.prog.funcs[f]? = some fn) (hb : fn.body = some (codeOf fn))
    (hn : (fn.name == "runtime.NumGoroutine") = false) (hsig : SigOK sig) (hxs : XSigOK xs)
    (h : ∀ bx avs sg, g bx avs = some sg → sg.need → lenA avs → lenB bx → (bxFree bx && (avs.all (·.freeA) && Nat.ble (avs.length + 1) fn.ntmps && Nat.ble fn.results.toList.length 5 && Nat.ble 0 fn.results.toList.length)) = true ∧
      ∃ va, ev sig xs fn.ntmps va (codeOf fn) 0 (initX bx avs) (retX fn.results.toList sg.kinds sg.post sg.ret sg.out)) : FunX f g := by
  intro bx avs sg hg hneed L0 v0 args w hL hv0 hbx hA
  have hlb : lenB bx := by
    cases bx with
    | box l => obtain ⟨g', cs, e, _, _, _, h4⟩ := hbx; exact hasL_len h4
    | row e c => exact reads_len (Owned.reads hbx)
    | mp l => trivial
  obtain ⟨h1, va, h2⟩ := h bx avs sg hg hneed (hasA_len hA) hlb
  rw [Bool.and_eq_true] at h1
  exact ⟨callFunc_enter hf (by rw [hb]; rfl) hn _ w, fun_okX hsig hxs hm hf hb hL hv0 hbx h1.1 hA h1.2 h2⟩
def FunY (f : FuncId) (g : List AV → Option SgY) : Prop :=
  ∀ avs sg, g avs = some sg → sg.need → ∀ (L0 : Nat → Prop) (args : Array Value) (w : World), LtI L0 w → hasA (EL L0) w args.toList avs →
    (callFunc f args).run Try.prog w = .ok (.enter f args) w ∧
    Calls Try.prog f args w fun e w' => ∃ v g, e = .returned v ∧ g.map GV.kd = sg.kinds ∧ sg.post g ∧ retOK w.heap.size L0 w' v (sg.ret g) ∧ Bel w w'
def ysigL : List (FuncId × (List AV → Option SgY)) → FuncId → List AV → Option SgY
  | [], _, _ => none
  | (i, g) :: l, f, avs => if f == i then g avs else ysigL l f avs
theorem ysigL_nil : YOK (ysigL []) := fun _ _ _ h => by cases h
theorem ysigL_cons {i : FuncId} {g : List AV → Option SgY} {l : List (FuncId × (List AV → Option SgY))} (h : FunY i g) (hl : YOK (ysigL l)) : YOK (ysigL ((i, g) :: l)) := by
  intro f avs sg hs
  simp only [ysigL] at hs
  split at hs
  · rename_i hf
    obtain rfl := beq_iff_eq.1 hf
    exact h avs sg hs
  · exact hl f avs sg hs
theorem fun_Y {f : FuncId} {fn : Func} {sig : FuncId → List AV → Option Sg} {xs : XS} {g : List AV → Option SgY} (hm : Try.prog.follows .mixedOrders = true) (hf : Try.prog.funcs[f]? = some fn) (hb : fn.body = some (codeOf fn))
    (hn : (fn.name == "runtime.NumGoroutine") = false) (hsig : SigOK sig) (hxs : XSigOK xs)
    (h : ∀ avs sg, g avs = some sg → sg.need → lenA avs → (avs.all (·.freeA) && Nat.ble avs.length fn.ntmps && Nat.ble fn.results.toList.length 5 && Nat.ble 0 fn.results.toList.length) = true ∧
      ∃ va, ev sig xs fn.ntmps va (codeOf fn) 0 (initS avs) (retY fn.results.toList sg.kinds sg.post sg.ret)) : FunY f g := by
  intro avs sg hg hneed L0 args w hL hA
  obtain ⟨h1, va, h2⟩ := h avs sg hg hneed (hasA_len hA)
  exact ⟨callFunc_enter hf (by rw [hb]; rfl) hn args w, fun_okY hsig hxs hm hf hb hL hA h1 h2⟩
/-- Nil is read as the empty slice. -/
def nilG (c : Cont) (g : List AV → Option Sg) : List AV → Option Sg
  | .s .nil :: l => g (.s (.view c) :: l)
  | l => g l
theorem FunOK.nil {f : FuncId} {g : List AV → Option Sg} {c : Cont} (h0 : c.len = 0) (h : FunOK f g) : FunOK f (nilG c g) := by
  intro avs sg hg hn L0 args w hL hA
  unfold nilG at hg
  split at hg
  · refine h _ sg hg hn L0 args w hL ?_
    obtain ⟨al⟩ := args
    match al, hA with
    | v :: al, hA =>
      obtain ⟨hv, hr⟩ := hA
      have hv' : v = .slice none 0 0 := hv
      rw [hv']
      exact ⟨nil_reads _ _ c h0, hr⟩
  · exact h _ sg hg hn L0 args w hL hA
/-- .. as the third argument. -/
def nilH (c : Cont) (g : List AV → Option Sg) : List AV → Option Sg
  | a :: b :: .s .nil :: l => g (a :: b :: .s (.view c) :: l)
  | l => g l
theorem FunOK.nil3 {f : FuncId} {g : List AV → Option Sg} {c : Cont} (h0 : c.len = 0) (h : FunOK f g) : FunOK f (nilH c g) := by
  intro avs sg hg hn L0 args w hL hA
  unfold nilH at hg
  split at hg
  · refine h _ sg hg hn L0 args w hL ?_
    obtain ⟨al⟩ := args
    match al, hA with
    | x :: y :: v :: al, hA =>
      obtain ⟨hx, hy, hv, hr⟩ := hA
      have hv' : v = .slice none 0 0 := hv
      rw [hv']
      exact ⟨hx, hy, nil_reads _ _ c h0, hr⟩
  · exact h _ sg hg hn L0 args w hL hA
end Go.Proofs.Ytdpokkegkedlfaa
