/- Operations that leave the memory of the call's own alone: what their value is known to be. -/
import Derived.Test.YtdpokkegkedlfaaAx1
import Derived.Deep.MidRow
import Derived.Laws.StructEq
namespace Go.Proofs.Ytdpokkegkedlfaa
open Go.RowKit
/-- A type, as far as is needed: one cell; a struct of single cells with its zero; a slice. -/
inductive Ty
  | sc
  | st (z : List SV)
  | sl (e : TypeId) (c : Cont)
def tyOf (t : TypeId) : Option Ty :=
  if t == 3 then some .sc else
  if t == 4 then some .sc else
  if t == 74 then some (.st [.int 0, .int 0]) else
  if t == 105 then some (.st [.int 0, .int 0]) else
  if t == 29 then some (.st [.int 0, .int 0]) else
  if t == 24 then some (.st [.int 0, .int 0]) else
  if t == 50 then some (.st [.nil, .nil, .nil]) else
  if t == 47 then some (.st [.nil, .nil, .nil]) else
  if t == 45 then some (.sl 3 (.ints [])) else
  if t == 42 then some (.sl 4 (.bools [])) else
  if t == 65 then some (.sl 74 (.pts [])) else
  if t == 63 then some (.sl 105 (.pts [])) else
  if t == 26 then some (.sl 29 (.pts [])) else
  if t == 57 then some (.sl 45 (.intss [])) else
  if t == 22 then some (.sl 42 (.boolss [])) else
  if t == 122 then some (.sl 65 (.ptss [])) else
  none
def byteT (t : TypeId) : Bool :=
  t == 35 ||
  false
theorem byteT_ok {t : TypeId} (h : byteT t = true) : ∃ e, Try.prog.underlying t = some (.slice e) := by
  unfold byteT at h
  simp only [Bool.or_false, Bool.or_eq_true, beq_iff_eq, Bool.false_eq_true] at h
  subst h
  exact ⟨_, Try.underlying35⟩
def sizeIs (P : Program) (t : TypeId) (n : Nat) : Bool :=
  match P.info? t with
  | some i => i.size == n
  | none => false
def plainT (P : Program) (t : TypeId) : Bool :=
  match P.underlying t with
  | some d => !d.isRow
  | none => false
def zeroV : SV → Value
  | .int n => .int .i64 n
  | .bool b => .bool b
  | _ => .slice none 0 0
def zeroOk : List SV → List Value → Bool
  | [], [] => true
  | .int 0 :: l, .int .i64 0 :: vs => zeroOk l vs
  | .bool false :: l, .bool false :: vs => zeroOk l vs
  | .nil :: l, .slice none 0 0 :: vs => zeroOk l vs
  | _, _ => false
/-- The one value that fills a new row. -/
def Cont.fillV : Cont → Value
  | .ints _ => .int .i64 0
  | .pts _ => .int .i64 0
  | .bools _ => .bool false
  | _ => .slice none 0 0
def allIs (c : Cont) : List Value → Bool
  | [] => true
  | v :: l => (match c, v with
    | .ints _, .int .i64 0 => true
    | .pts _, .int .i64 0 => true
    | .bools _, .bool false => true
    | .intss _, .slice none 0 0 => true
    | .ptss _, .slice none 0 0 => true
    | .boolss _, .slice none 0 0 => true
    | _, _ => false) && allIs c l
theorem allIs_eq (c : Cont) : ∀ l : List Value, allIs c l = true → ∀ v ∈ l, v = c.fillV
  | [], _, v, hv => by simp at hv
  | u :: l, h, v, hv => by
    simp only [allIs, Bool.and_eq_true] at h
    rcases List.mem_cons.1 hv with rfl | hv
    · have h1 := h.1
      split at h1 <;> first | rfl | cases h1
    · exact allIs_eq c l h.2 v hv
def fieldsOk (P : Program) : List Field → Nat → Bool
  | [], _ => true
  | f :: l, i => f.offset == i && sizeIs P f.type 1 && plainT P f.type && fieldsOk P l (i + 1)
def chkTy (P : Program) (t : TypeId) : Ty → Bool
  | .sc => plainT P t && sizeIs P t 1
  | .st z => (match P.underlying t with
      | some (.struct fs) => fieldsOk P fs.toList 0 && fs.toList.length == z.length
      | _ => false) && sizeIs P t z.length && (match (P.info? t).bind (·.zero) with
      | some (.agg cs) => zeroOk z cs.toList
      | _ => false)
  | .sl e c => plainT P t && sizeIs P t 1 && (match P.underlying t with
      | some (.slice e') => e' == e
      | _ => false) && (match P.info? e with
      | some i => i.size == c.sz && Nat.ble i.bytes 32 && (match i.zero with | some z => z.cells.toList.length == c.sz && allIs c z.cells.toList | none => false)
      | none => false) && c.len == 0
theorem ite_ty {c : Bool} {a b : Option Ty} {ty : Ty} (h : (if c = true then a else b) = some ty) : (c = true ∧ a = some ty) ∨ b = some ty := by
  cases c with
  | true => exact .inl ⟨rfl, h⟩
  | false => exact .inr h
set_option maxRecDepth 20000 in
theorem tyOf_chk (t : TypeId) (ty : Ty) (h : tyOf t = some ty) : chkTy Try.prog t ty = true := by
  unfold tyOf at h
  repeat (
    rcases ite_ty h with ⟨hb, h⟩ | h
    · obtain rfl := beq_iff_eq.1 hb; injection h with h; subst h; kernel_rfl)
  cases h
theorem sizeIs_map {t : TypeId} {n : Nat} (h : sizeIs Try.prog t n = true) : (Try.prog.info? t).map (·.size) = some n := by
  unfold sizeIs at h
  cases hi : Try.prog.info? t with
  | none => rw [hi] at h; cases h
  | some i => rw [hi] at h; simpa using h
theorem plainT_ex {t : TypeId} (h : plainT Try.prog t = true) : ∃ d, Try.prog.underlying t = some d ∧ d.isRow = false := by
  unfold plainT at h
  cases hd : Try.prog.underlying t with
  | none => rw [hd] at h; cases h
  | some d => rw [hd] at h; exact ⟨d, rfl, by simpa using h⟩
def Ty.one : Ty → Bool
  | .st _ => false
  | _ => true
theorem ty_one {t : TypeId} {ty : Ty} (h : tyOf t = some ty) (h1 : ty.one = true) : (∃ d, Try.prog.underlying t = some d ∧ d.isRow = false) ∧ (Try.prog.info? t).map (·.size) = some 1 := by
  have := tyOf_chk t ty h
  cases ty with
  | sc =>
    simp only [chkTy, Bool.and_eq_true] at this
    exact ⟨plainT_ex this.1, sizeIs_map this.2⟩
  | st z => cases h1
  | sl e c =>
    simp only [chkTy, Bool.and_eq_true] at this
    exact ⟨plainT_ex this.1.1.1.1, sizeIs_map this.1.1.1.2⟩
theorem fieldsOk_get : ∀ (l : List Field) (k i : Nat) (f : Field), fieldsOk Try.prog l k = true → l[i]? = some f → f.offset = k + i ∧ (Try.prog.info? f.type).map (·.size) = some 1 ∧ ∃ d, Try.prog.underlying f.type = some d ∧ d.isRow = false
  | [], _, _, _, _, h => by simp at h
  | g :: l, k, i, f, h, hi => by
    simp only [fieldsOk, Bool.and_eq_true, beq_iff_eq] at h
    cases i with
    | zero =>
      simp only [List.getElem?_cons_zero, Option.some.injEq] at hi
      subst hi
      exact ⟨h.1.1.1, sizeIs_map h.1.1.2, plainT_ex h.1.2⟩
    | succ i =>
      have := fieldsOk_get l (k + 1) i f h.2 (by simpa using hi)
      exact ⟨by omega, this.2⟩
theorem ty_st {t : TypeId} {z : List SV} (h : tyOf t = some (.st z)) : ∃ fs : Array Field, Try.prog.underlying t = some (.struct fs) ∧ fs.size = z.length ∧
    (∀ (i : Nat) (f : Field), fs[i]? = some f → f.offset = i ∧ (Try.prog.info? f.type).map (·.size) = some 1 ∧ ∃ d, Try.prog.underlying f.type = some d ∧ d.isRow = false) ∧
    (Try.prog.info? t).map (·.size) = some z.length ∧ ∃ i cs, Try.prog.info? t = some i ∧ i.zero = some (.agg cs) ∧ zeroOk z cs.toList = true := by
  have := tyOf_chk t _ h
  simp only [chkTy, Bool.and_eq_true] at this
  obtain ⟨⟨h1, h2⟩, h3⟩ := this
  cases hu : Try.prog.underlying t with
  | none => rw [hu] at h1; cases h1
  | some d =>
    rw [hu] at h1
    cases d with
    | struct fs =>
      simp only [Bool.and_eq_true, beq_iff_eq] at h1
      refine ⟨fs, rfl, by simpa using h1.2, fun i f hf => ?_, sizeIs_map h2, ?_⟩
      · have := fieldsOk_get fs.toList 0 i f h1.1 (by simpa using hf)
        simpa using this
      · cases hi : Try.prog.info? t with
        | none => rw [hi] at h3; simp at h3
        | some i =>
          rw [hi] at h3
          simp only [Option.bind_some] at h3
          cases hz : i.zero with
          | none => rw [hz] at h3; simp at h3
          | some v =>
            rw [hz] at h3
            cases v with
            | agg cs => exact ⟨i, cs, rfl, hz, h3⟩
            | _ => simp at h3
    | _ => simp at h1
/-- Arrays that are kept as variables of so many cells. -/
def arOf (t : TypeId) : Option (List SV) :=
  if t == 0 && false then some [] else none
def stZ (t : TypeId) : Option (List SV) := match tyOf t with
  | some (.st z) => some z
  | some _ => none
  | none => arOf t
theorem stZ_cases {t : TypeId} {z : List SV} (h : stZ t = some z) : tyOf t = some (.st z) ∨ arOf t = some z := by
  unfold stZ at h
  split at h
  · rename_i z' ht; injection h with h; subst h; exact .inl ht
  · cases h
  · exact .inr h
theorem arOf_ok {t : TypeId} {z : List SV} (h : arOf t = some z) : (∃ e, Try.prog.underlying t = some (.array z.length e) ∧ (Try.prog.info? e).map (·.size) = some 1) ∧ (Try.prog.info? t).map (·.size) = some z.length ∧ ∃ i cs, Try.prog.info? t = some i ∧ i.zero = some (.agg cs) ∧ zeroOk z cs.toList = true := by
  unfold arOf at h
  · simp at h
theorem ty_z {t : TypeId} {z : List SV} (h : stZ t = some z) : (Try.prog.info? t).map (·.size) = some z.length ∧ ∃ i cs, Try.prog.info? t = some i ∧ i.zero = some (.agg cs) ∧ zeroOk z cs.toList = true := by
  rcases stZ_cases h with h | h
  · obtain ⟨_, _, _, _, h1, h2⟩ := ty_st h; exact ⟨h1, h2⟩
  · exact (arOf_ok h).2
theorem ty_sl {t : TypeId} {e : TypeId} {c : Cont} (h : tyOf t = some (.sl e c)) : Try.prog.underlying t = some (.slice e) ∧ c.len = 0 ∧
    ∃ i z, Try.prog.info? e = some i ∧ i.size = c.sz ∧ i.bytes ≤ 32 ∧ i.zero = some z ∧ z.cells.size = c.sz ∧ ∀ v ∈ z.cells.toList, v = c.fillV := by
  have := tyOf_chk t _ h
  simp only [chkTy, Bool.and_eq_true] at this
  obtain ⟨⟨⟨⟨h0, h1⟩, h2⟩, h3⟩, h4⟩ := this
  refine ⟨?_, by simpa using h4, ?_⟩
  · cases hu : Try.prog.underlying t with
    | none => rw [hu] at h2; simp at h2
    | some d =>
      rw [hu] at h2
      cases d <;> simp at h2
      rw [h2]
  · cases hi : Try.prog.info? e with
    | none => rw [hi] at h3; simp at h3
    | some i =>
      rw [hi] at h3
      simp only [Bool.and_eq_true, beq_iff_eq] at h3
      cases hz : i.zero with
      | none => rw [hz] at h3; simp at h3
      | some z =>
        rw [hz] at h3
        simp only [Bool.and_eq_true, beq_iff_eq] at h3
        exact ⟨i, z, rfl, h3.1.1, Nat.le_of_ble_eq_true h3.1.2, hz, by simpa using h3.2.1, allIs_eq c _ h3.2.2⟩
theorem zeroOk_has {E : Env} {w : World} : ∀ (z : List SV) (vs : List Value), zeroOk z vs = true → hasL E w vs z
  | [], [], _ => trivial
  | [], _ :: _, h => by simp [zeroOk] at h
  | a :: l, [], h => by cases a <;> simp [zeroOk] at h
  | a :: l, v :: vs, h => by
    unfold zeroOk at h
    split at h
    all_goals first | cases h | skip
    · rename_i e1 e2; simp at e1
    · rename_i e1 e2
      injection e1 with e3 e4; injection e2 with e5 e6
      subst e3 e4 e5 e6
      exact ⟨rfl, zeroOk_has _ _ h⟩
    · rename_i e1 e2
      injection e1 with e3 e4; injection e2 with e5 e6
      subst e3 e4 e5 e6
      exact ⟨rfl, zeroOk_has _ _ h⟩
    · rename_i e1 e2
      injection e1 with e3 e4; injection e2 with e5 e6
      subst e3 e4 e5 e6
      exact ⟨rfl, zeroOk_has _ _ h⟩
theorem run_isAgg_sc {P : Program} {t : TypeId} {d : TypeDesc} (h : P.underlying t = some d) (hd : d.isRow = false) (w : World) : (isAgg t).run P w = .ok false w := by
  cases d <;> simp_all [isAgg, run_underlying h]
theorem run_loadAt_one {t : TypeId} {ty : Ty} (h : tyOf t = some ty) (h1 : ty.one = true) {w : World} {b o : Nat} {v : Value} (hc : w.cell? ⟨b, o, none⟩ = some v) :
    (Instr.loadAt t (.pointer (some ⟨b, o, none⟩))).run Try.prog w = .ok v w := by
  obtain ⟨⟨d, hd, hr⟩, _⟩ := ty_one h h1
  simp only [Instr.loadAt, Instr.sureAddr, loadVar, Sem.run_bind, Sem.run_pure, Result.andThen_ok, run_isAgg_sc hd hr]
  simp [load, Sem.run, hc]
theorem run_loadAt_st {t : TypeId} {z : List SV} (h : tyOf t = some (.st z)) {w : World} {b o : Nat} {cs : List Value} (hl : cs.length = z.length) (hc : ∀ j u, cs[j]? = some u → w.cell? ⟨b, o + j, none⟩ = some u) :
    (Instr.loadAt t (.pointer (some ⟨b, o, none⟩))).run Try.prog w = .ok (.agg cs.toArray) w := by
  obtain ⟨fs, hu, _, _, hs, _⟩ := ty_st h
  exact run_loadAt_mid w b o t cs _ hc hu rfl (by rw [hs, hl])
theorem run_fieldAt_st {t : TypeId} {z : List SV} (h : tyOf t = some (.st z)) {w : World} {b o k : Nat} (hk : k < z.length) :
    (Instr.fieldAt t (.pointer (some ⟨b, o, none⟩)) k).run Try.prog w = .ok (.pointer (some ⟨b, o + k, none⟩)) w := by
  obtain ⟨fs, hu, hn, hf, _, _⟩ := ty_st h
  have hk' : k < fs.size := by omega
  obtain ⟨h1, h2, _⟩ := hf k fs[k] (Array.getElem?_eq_getElem hk')
  cases hi : Try.prog.info? (fs[k]).type with
  | none => rw [hi] at h2; simp at h2
  | some i =>
    rw [hi] at h2
    have h2' : i.size = 1 := by simpa using h2
    simp [Instr.fieldAt, run_underlying hu, Array.getElem?_eq_getElem hk', Instr.sureAddr, fieldPlace, sizeOf, typeInfo, hi, h2', h1, Addr.add_mid]
theorem run_field_st {t : TypeId} {z : List SV} (h : tyOf t = some (.st z)) {w : World} {cs : Array Value} {k : Nat} (hk : k < z.length) (hs : cs.size = z.length) :
    (Instr.field t (.agg cs) k).run Try.prog w = .ok (cs[k]'(by omega)) w := by
  obtain ⟨fs, hu, hn, hf, _, _⟩ := ty_st h
  have hk' : k < fs.size := by omega
  obtain ⟨h1, _, d, h2, h3⟩ := hf k fs[k] (Array.getElem?_eq_getElem hk')
  have hkc : k < cs.size := by omega
  simp [Instr.field, run_underlying hu, Array.getElem?_eq_getElem hk', part, asAgg, run_isAgg_sc h2 h3, h1, Array.getElem?_eq_getElem hkc]
theorem run_indexAt_sl {t e : TypeId} {c : Cont} (h : tyOf t = some (.sl e c)) {w : World} {b o n cap : Nat} {i : Int} (h0 : 0 ≤ i) (h1 : i < n) :
    (Instr.indexAt t (.slice (some ⟨b, o, none⟩) n cap) (.int .i64 i)).run Try.prog w = .ok (.pointer (some ⟨b, o + i.toNat * c.sz, none⟩)) w := by
  obtain ⟨hu, _, inf, z, hi, hs, _⟩ := ty_sl h
  simp [Instr.indexAt, asIntOf, run_underlying hu, sizeOf, typeInfo, hi, hs, h0, h1, Addr.add_mid]
/-- The value of one cell of an element. -/
def Cont.get : Cont → Int → Nat → SV
  | .ints l, i, _ => .int (geti l i)
  | .pts l, i, 0 => .int (getx l i)
  | .pts l, i, _ => .int (gety l i)
  | .bools l, i, _ => .bool (getb l i)
  | .intss l, i, _ => .view (.ints (getl l i))
  | .ptss l, i, _ => .view (.pts (getl l i))
  | .boolss l, i, _ => .view (.bools (getl l i))
theorem reads_ints {L : Nat → Prop} {w : World} {v : Value} {m : List Int} (h : Flat L w v 1 m.length (m.map (Value.int .i64))) : Reads L w v (.ints m) := ⟨_, h, rfl⟩
theorem get_has {E : Env} {w : World} {xs : List Value} {c : Cont} {i : Int} {o : Nat} (h : CellsOK E.lv w xs c) (hl : xs.length = c.len * c.sz) (h0 : 0 ≤ i) (h1 : i < c.len) (ho : o < c.sz) :
    ∃ u, xs[i.toNat * c.sz + o]? = some u ∧ (c.get i o).has E w u := by
  cases c with
  | ints l =>
    simp only [CellsOK, Cont.sz, Cont.len] at *
    obtain rfl : o = 0 := by omega
    subst h
    have : i.toNat < l.length := by omega
    exact ⟨.int .i64 (geti l i), by simp [geti, List.getD_eq_getElem?_getD, this], rfl⟩
  | bools l =>
    simp only [CellsOK, Cont.sz, Cont.len] at *
    obtain rfl : o = 0 := by omega
    subst h
    have : i.toNat < l.length := by omega
    exact ⟨.bool (getb l i), by simp [getb, List.getD_eq_getElem?_getD, this], rfl⟩
  | pts l =>
    simp only [CellsOK, Cont.sz, Cont.len] at *
    subst h
    have hi : i.toNat < l.length := by omega
    have hx := ptCells_x l i.toNat hi
    rcases (show o = 0 ∨ o = 1 by omega) with rfl | rfl
    · exact ⟨_, hx.1, by simp [Cont.get, SV.has, getx, List.getD_eq_getElem?_getD, hi]⟩
    · exact ⟨_, hx.2, by simp [Cont.get, SV.has, gety, List.getD_eq_getElem?_getD, hi]⟩
  | intss l =>
    simp only [CellsOK, Cont.sz, Cont.len] at *
    obtain rfl : o = 0 := by omega
    have hi : i.toNat < l.length := by omega
    refine ⟨xs[i.toNat]'(by omega), by simp, ?_⟩
    have := h.2 i.toNat _ _ (List.getElem?_eq_getElem (by omega)) (List.getElem?_eq_getElem hi)
    simp only [Cont.get, SV.has, getl, List.getD_eq_getElem?_getD, List.getElem?_eq_getElem hi, Option.getD_some]
    exact ⟨_, this, rfl⟩
  | ptss l =>
    simp only [CellsOK, Cont.sz, Cont.len] at *
    obtain rfl : o = 0 := by omega
    have hi : i.toNat < l.length := by omega
    refine ⟨xs[i.toNat]'(by omega), by simp, ?_⟩
    have := h.2 i.toNat _ _ (List.getElem?_eq_getElem (by omega)) (List.getElem?_eq_getElem hi)
    simp only [Cont.get, SV.has, getl, List.getD_eq_getElem?_getD, List.getElem?_eq_getElem hi, Option.getD_some]
    exact ⟨_, this, rfl⟩
  | boolss l =>
    simp only [CellsOK, Cont.sz, Cont.len] at *
    obtain rfl : o = 0 := by omega
    have hi : i.toNat < l.length := by omega
    refine ⟨xs[i.toNat]'(by omega), by simp, ?_⟩
    have := h.2 i.toNat _ _ (List.getElem?_eq_getElem (by omega)) (List.getElem?_eq_getElem hi)
    simp only [Cont.get, SV.has, getl, List.getD_eq_getElem?_getD, List.getElem?_eq_getElem hi, Option.getD_some]
    exact ⟨_, this, rfl⟩
theorem hasL_get {E : Env} {w : World} : ∀ {vs : List Value} {l : List SV}, hasL E w vs l → vs.length = l.length ∧ ∀ (i : Nat) a, l[i]? = some a → ∃ u, vs[i]? = some u ∧ a.has E w u
  | [], [], _ => ⟨rfl, fun i a h => by simp at h⟩
  | [], _ :: _, h => h.elim
  | _ :: _, [], h => h.elim
  | v :: vs, a :: l, h => by
    obtain ⟨h1, h2⟩ := hasL_get h.2
    refine ⟨by simp [h1], fun i b hb => ?_⟩
    cases i with
    | zero => simp only [List.getElem?_cons_zero, Option.some.injEq] at hb; subst hb; exact ⟨v, rfl, h.1⟩
    | succ i => simpa using h2 i b (by simpa using hb)
theorem hasL_mk {E : Env} {w : World} : ∀ {vs : List Value} {l : List SV}, vs.length = l.length → (∀ (i : Nat) a u, l[i]? = some a → vs[i]? = some u → a.has E w u) → hasL E w vs l
  | [], [], _, _ => trivial
  | [], _ :: _, h, _ => by simp at h
  | _ :: _, [], h, _ => by simp at h
  | v :: vs, a :: l, h, hh => ⟨hh 0 a v rfl rfl, hasL_mk (by simpa using h) fun i b u hb hu => hh (i + 1) b u (by simpa using hb) (by simpa using hu)⟩
theorem hasL_drop_take {E : Env} {w : World} {vs : List Value} {l : List SV} (h : hasL E w vs l) (o n : Nat) : hasL E w ((vs.drop o).take n) ((l.drop o).take n) := by
  obtain ⟨h1, h2⟩ := hasL_get h
  refine hasL_mk (by simp [h1]) fun i a u ha hu => ?_
  rw [List.getElem?_take] at ha hu
  split at ha
  · rename_i hlt
    rw [if_pos hlt] at hu
    rw [List.getElem?_drop] at ha hu
    obtain ⟨u', h3, h4⟩ := h2 _ _ ha
    rw [hu] at h3; injection h3 with h3; subst h3; exact h4
  · cases ha
end Go.Proofs.Ytdpokkegkedlfaa
