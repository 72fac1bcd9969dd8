/- Operations that leave the memory of the call's own alone: calls, structs, parts of slices; all of them in one. -/
import Derived.Test.YtdpokkegkedlfaaAx3
namespace Go.Proofs.Ytdpokkegkedlfaa
open Go.RowKit
set_option maxRecDepth 10000
section
variable {sig : FuncId → List AV → Option Sg} {base : Nat} {E : Env} {w : World} {B : Nat → Option Bx} {G : Operand → FV} {a : Act} {K : Act → World → Prop} {Q : Exit → Act → World → Prop} {p : Prop} {r : FV}
  (dst : Option Tmp) (ty : TypeId) (pos : String) (af : Array Edge)
/-- What a callee may take for blocks that are written: none, or those of the caller. -/
def LF (fr : Bool) (E : Env) : Nat → Prop := fun b => fr = true ∧ E.lv b
theorem cvS_ok {fr : Bool} {v : Value} {s b : SV} (hM : MemOK base E w B) (hfr : fr = true → s.free = true) (h : cvS B s = some b) (hs : s.has E w v) : b.has (EL (LF fr E)) w v := by
  cases s with
  | row k =>
    simp only [cvS] at h
    split at h
    · rename_i e c hb
      injection h with h; subst h
      have := hM.ok k _ hb
      have hv : v = E.hd k := hs
      rw [hv]
      exact this.reads.less (fun b hb => by have := hfr hb.1; cases this)
    · cases h
  | view c => simp only [cvS] at h; injection h with h; subst h; exact Reads.less (L' := LF fr E) hs (fun _ h => h.2)
  | rdr n => simp only [cvS] at h; injection h with h; subst h; exact BytesOK.less (L' := LF fr E) hs (fun _ h => h.2)
  | byt l => simp only [cvS] at h; injection h with h; subst h; exact BytesL.less (L' := LF fr E) hs (fun _ h => h.2)
  | bptr l i => cases h
  | u8 n => cases h
  | ptr k o => cases h
  | vptr c i o => cases h
  | rptr k z i o => cases h
  | top => simp only [cvS] at h; injection h with h; subst h; trivial
  | int n => simp only [cvS] at h; injection h with h; subst h; exact hs
  | bool n => simp only [cvS] at h; injection h with h; subst h; exact hs
  | nil => simp only [cvS] at h; injection h with h; subst h; exact hs
  | x n => simp only [cvS] at h; injection h with h; subst h; exact hs
theorem cvL_ok {fr : Bool} (hM : MemOK base E w B) : ∀ {l m : List SV} {vs : List Value}, (fr = true → l.all (·.free) = true) → cvL B l = some m → hasL E w vs l → hasL (EL (LF fr E)) w vs m
  | [], m, vs, _, h, hs => by
    simp only [cvL] at h; injection h with h; subst h
    cases vs with
    | nil => trivial
    | cons v vs => exact hs.elim
  | s :: l, m, vs, hfr, h, hs => by
    simp only [List.all_cons, Bool.and_eq_true] at hfr
    simp only [cvL] at h
    split at h
    · rename_i b hb
      split at h
      · rename_i m' hm
        injection h with h; subst h
        cases vs with
        | nil => exact hs.elim
        | cons v vs => exact ⟨cvS_ok hM (fun e => (hfr e).1) hb hs.1, cvL_ok hM (fun e => (hfr e).2) hm hs.2⟩
      · cases h
    · cases h
theorem cvA_ok {fr : Bool} {f : FV} {b : AV} {v : Value} (hM : MemOK base E w B) (hfr : fr = true → f.fr = true) (h : cvA B f = some b) (hs : f.has E w v) : b.has (EL (LF fr E)) w v := by
  cases f with
  | v av =>
    cases av with
    | s s =>
      simp only [cvA] at h
      split at h
      · rename_i b' hb; injection h with h; subst h; exact cvS_ok hM hfr hb hs
      · cases h
    | agg l =>
      simp only [cvA] at h
      split at h
      · rename_i m hm
        injection h with h; subst h
        obtain ⟨cs, e1, hl⟩ := hs
        exact ⟨cs, e1, cvL_ok hM hfr hm hl⟩
      · cases h
  | tup l => cases h
theorem cvAs_ok {fr : Bool} (hM : MemOK base E w B) {ρ : Operand → Value} : ∀ {l : List Operand} {m : List AV}, (fr = true → frAs G l = true) → (∀ x ∈ l, (G x).has E w (ρ x)) → cvAs B G l = some m → hasA (EL (LF fr E)) w (l.map ρ) m
  | [], m, _, _, h => by simp only [cvAs] at h; injection h with h; subst h; trivial
  | x :: l, m, hfr, hG, h => by
    simp only [frAs, Bool.and_eq_true] at hfr
    simp only [cvAs] at h
    split at h
    · rename_i b hb
      split at h
      · rename_i m' hm
        injection h with h; subst h
        exact ⟨cvA_ok hM (fun e => (hfr e).1) hb (hG x (List.mem_cons_self ..)), cvAs_ok hM (fun e => (hfr e).2) (fun y hy => hG y (List.mem_cons_of_mem _ hy)) hm⟩
      · cases h
    · cases h
theorem free_has {fr : Bool} {v : Value} {s : SV} (hf : okF fr s = true) (h : s.has (EL (LF fr E)) w v) : s.has E w v := by
  cases s <;> simp [okF, SV.pl, SV.free] at hf <;> first | exact h | exact Reads.less (L' := E.lv) h (fun b hb => ⟨hf, hb⟩) | exact BytesOK.less (L' := E.lv) h (fun b hb => ⟨hf, hb⟩) | exact BytesL.less (L' := E.lv) h (fun b hb => ⟨hf, hb⟩) | exact ByteP.less (L' := E.lv) h (fun b hb => ⟨hf, hb⟩)
theorem free_hasL {fr : Bool} : ∀ {l : List SV} {vs : List Value}, l.all (okF fr) = true → hasL (EL (LF fr E)) w vs l → hasL E w vs l
  | [], [], _, _ => trivial
  | [], _ :: _, _, h => h.elim
  | _ :: _, [], _, h => h.elim
  | s :: l, v :: vs, hf, h => by
    simp only [List.all_cons, Bool.and_eq_true] at hf
    exact ⟨free_has hf.1 h.1, free_hasL hf.2 h.2⟩
theorem rvA_ok {fr : Bool} {n : Nat} {v : Value} {rv : RV} {b : AV} (h : rvA fr rv = some b) (hr : rv.has n (LF fr E) w v) : b.has E w v := by
  cases rv with
  | s s =>
    simp only [rvA] at h
    split at h
    · rename_i hf; injection h with h; subst h; exact free_has hf hr
    · cases h
  | agg l =>
    simp only [rvA] at h
    split at h
    · rename_i hf
      injection h with h; subst h
      obtain ⟨cs, e1, hl⟩ := hr
      exact ⟨cs, e1, free_hasL hf hl⟩
    · cases h
  | nrow e c => cases h
  | nbox l => cases h
theorem rvAs_ok {fr : Bool} {n : Nat} : ∀ {l : List RV} {m : List AV} {vs : List Value}, rvAs fr l = some m → hasR n (LF fr E) w vs l → hasA E w vs m
  | [], m, vs, h, hs => by
    simp only [rvAs] at h; injection h with h; subst h
    cases vs with
    | nil => trivial
    | cons v vs => exact hs.elim
  | s :: l, m, vs, h, hs => by
    simp only [rvAs] at h
    split at h
    · rename_i b hb
      split at h
      · rename_i m' hm
        injection h with h; subst h
        cases vs with
        | nil => exact hs.elim
        | cons v vs => exact ⟨rvA_ok hb hs.1, rvAs_ok hm hs.2⟩
      · cases h
    · cases h
theorem qRet_ok {fr : Bool} {n : Nat} {v : Value} {l : List RV} (h : qRet fr l = some r) (hr : retOK n (LF fr E) w v l) : r.has E w v := by
  match l, h, hr with
  | [], h, hr =>
    obtain ⟨cs, e1, h1⟩ := hr
    simp only [qRet, rvAs] at h; injection h with h; subst h
    cases hc : cs.toList with
    | nil => exact ⟨cs, e1, by rw [hc]; trivial⟩
    | cons x y => rw [hc] at h1; exact h1.elim
  | [b], h, hr =>
    simp only [qRet] at h
    split at h
    · rename_i c hb; injection h with h; subst h; exact rvA_ok hb hr
    · cases h
  | b :: c :: l, h, hr =>
    obtain ⟨cs, e1, h1⟩ := hr
    simp only [qRet] at h
    split at h
    · rename_i m hm; injection h with h; subst h; exact ⟨cs, e1, rvAs_ok hm h1⟩
    · cases h
theorem qCall_ok (hsig : SigOK sig) (f : FuncId) (args : Array Operand) (ats : Array TypeId) (hM : MemOK base E w B) (h : qCall sig B G f args.toList = some (p, r)) (hp : p) (hG : ∀ x ∈ args.toList, (G x).has E w (a.eval x))
    (hq : QOut E w r a ⟨dst, .call ⟨.value (.func f), args, ats⟩, ty, pos, af, none⟩ K) :
    Oper.wp Try.prog ⟨dst, .call ⟨.value (.func f), args, ats⟩, ty, pos, af, none⟩ a w K Q := by
  unfold qCall at h
  split at h
  · rename_i avs hav
    split at h
    · rename_i sg hsg
      split at h
      · rename_i r' hr
        injection h with h; injection h with h1 h2; subst h1 h2
        have hA := cvAs_ok (fr := frAs G args.toList) hM (fun h => h) hG hav
        obtain ⟨e1, e2⟩ := hsig f avs sg hsg hp (LF (frAs G args.toList) E) (args.map a.eval) w ⟨fun b hb => hM.lt.lt' b hb.2, hM.lt.inv⟩ (by rw [Array.toList_map]; exact hA)
        unfold Oper.wp
        rw [show execOp a.eval _ = callFunc f (#[] ++ args.map a.eval ++ #[]) from rfl]
        rw [Array.empty_append, Array.append_empty, e1]
        show Calls Try.prog f (args.map a.eval) w _
        refine e2.mono ?_
        rintro e w' ⟨v, rfl, hv, hb⟩
        exact hq v w' (qRet_ok hr (hv)) (bel_grown hb)
      · cases h
    · cases h
  · cases h
theorem qCallV_ok (hsig : SigOK sig) (t : Tmp) (f : FuncId) (x y : Array Value) (args : Array Operand) (ats : Array TypeId) (hM : MemOK base E w B) (hf : a.eval (.tmp t) = .func (.func f) x y) (hxy : (x.isEmpty && y.isEmpty) = true) (h : qCall sig B G f args.toList = some (p, r)) (hp : p) (hG : ∀ x ∈ args.toList, (G x).has E w (a.eval x))
    (hq : QOut E w r a ⟨dst, .call ⟨.value (.tmp t), args, ats⟩, ty, pos, af, none⟩ K) :
    Oper.wp Try.prog ⟨dst, .call ⟨.value (.tmp t), args, ats⟩, ty, pos, af, none⟩ a w K Q := by
  simp only [Bool.and_eq_true, Array.isEmpty_iff] at hxy
  obtain ⟨rfl, rfl⟩ := hxy
  unfold qCall at h
  split at h
  · rename_i avs hav
    split at h
    · rename_i sg hsg
      split at h
      · rename_i r' hr
        injection h with h; injection h with h1 h2; subst h1 h2
        have hA := cvAs_ok (fr := frAs G args.toList) hM (fun h => h) hG hav
        obtain ⟨e1, e2⟩ := hsig f avs sg hsg hp (LF (frAs G args.toList) E) (args.map a.eval) w ⟨fun b hb => hM.lt.lt' b hb.2, hM.lt.inv⟩ (by rw [Array.toList_map]; exact hA)
        unfold Oper.wp
        have e0 : execOp a.eval (⟨dst, .call ⟨.value (.tmp t), args, ats⟩, ty, pos, af, none⟩ : Oper) = callFunc f (#[] ++ args.map a.eval ++ #[]) := by
          unfold execOp
          simp only [resolve, hf]
          rfl
        rw [e0, Array.empty_append, Array.append_empty, e1]
        show Calls Try.prog f (args.map a.eval) w _
        refine e2.mono ?_
        rintro e w' ⟨v, rfl, hv, hb⟩
        exact hq v w' (qRet_ok hr (hv)) (bel_grown hb)
      · cases h
    · cases h
  · cases h
theorem qExt_ok (x : Operand) (k : Nat) (h : qExt k (G x) = some (p, r)) (hx : (G x).has E w (a.eval x)) (hq : QOut E w r a ⟨dst, .extract x k, ty, pos, af, none⟩ K) :
    Oper.wp Try.prog ⟨dst, .extract x k, ty, pos, af, none⟩ a w K Q := by
  generalize hgx : G x = gx at *
  unfold qExt at h
  split at h
  · rename_i l
    split at h
    · rename_i b hb
      injection h with h; injection h with h1 h2; subst h1 h2
      obtain ⟨cs, e1, hl⟩ := hx
      have key : ∀ (l : List AV) (vs : List Value) (k : Nat), hasA E w vs l → l[k]? = some b → ∃ u, vs[k]? = some u ∧ b.has E w u := by
        intro l
        induction l with
        | nil => intro vs k _ h; simp at h
        | cons c l ih =>
          intro vs k hh hk
          cases vs with
          | nil => exact hh.elim
          | cons v vs =>
            cases k with
            | zero => simp only [List.getElem?_cons_zero, Option.some.injEq] at hk; subst hk; exact ⟨v, rfl, hh.1⟩
            | succ k => simpa using ih vs k hh.2 (by simpa using hk)
      obtain ⟨u, hu, hh⟩ := key l cs.toList k hl hb
      refine wp_run (w' := w) (v := u) ?_ (hq _ w hh (same_grown w))
      unfold execOp
      generalize a.eval = ρ at *
      have hu' : cs[k]? = some u := by simpa using hu
      simp [e1, Instr.extract, hu', Result.andThen]
    · cases h
  · cases h
theorem cell_one {s : SV} {v : Value} (hc : s.cell = true) (h : s.has E w v) : v.oneCell' = true := by
  cases s with
  | int n => rw [show v = _ from h]; rfl
  | bool n => rw [show v = _ from h]; rfl
  | nil => rw [show v = _ from h]; rfl
  | view c => obtain ⟨A, cap, h⟩ := reads_form h; rw [h]; rfl
  | _ => cases hc
theorem one_cells {v : Value} (h : v.oneCell' = true) : v.cells = #[v] := by
  cases v <;> first | rfl | cases h
/-- The parts of a struct put in their places. -/
theorem parts_ok {pl : Nat → Option (Nat × Nat)} {n : Nat} (hpl : ∀ i, i < n → pl i = some (i, 1)) : ∀ (parts : List (Nat × Operand)) (z l : List SV) (cs : Array Value), (∀ q ∈ parts, (G q.2).has E w (a.eval q.2)) →
    setParts G parts z = some l → z.length = n → hasL E w cs.toList z → ∃ cs' : Array Value, Instr.fill pl cs (parts.map fun q => (q.1, a.eval q.2)) = some cs' ∧ hasL E w cs'.toList l
  | [], z, l, cs, _, h, _, hz => by
    simp only [setParts] at h; injection h with h; subst h
    exact ⟨cs, rfl, hz⟩
  | (i, x) :: parts, z, l, cs, hG, h, hn, hz => by
    have hx := hG (i, x) (List.mem_cons_self ..)
    simp only at hx
    simp only [setParts] at h
    split at h
    · rename_i s hs
      rw [hs] at hx
      split at h
      · rename_i hk
        simp only [Bool.and_eq_true] at hk
        have hi := blt_lt hk.2
        have h1 := cell_one hk.1 hx
        have hc := one_cells h1
        obtain ⟨q1, q2⟩ := hasL_get hz
        have hcs : cs.size = z.length := by simpa using q1
        have hz' : hasL E w (cs.setIfInBounds i (a.eval x)).toList (z.set i s) := by
          refine hasL_mk (by simp [hcs]) fun j b u hb hu => ?_
          rw [Array.toList_setIfInBounds, List.getElem?_set] at hu
          rw [List.getElem?_set] at hb
          by_cases hij : i = j
          · rw [if_pos hij] at hu hb
            rw [if_pos (by simp; omega)] at hu
            rw [if_pos (by omega)] at hb
            injection hb with hb; injection hu with hu; subst hb hu; exact hx
          · rw [if_neg hij] at hu hb
            obtain ⟨u', h3, h4⟩ := q2 j b hb
            rw [hu] at h3; injection h3 with h3; subst h3; exact h4
        obtain ⟨cs', e1, e2⟩ := parts_ok hpl parts _ l _ (fun q hq => hG q (List.mem_cons_of_mem _ hq)) h (by simpa using hn) hz'
        refine ⟨cs', ?_, e2⟩
        rw [← e1]
        simp only [List.map_cons, Instr.fill, hpl i (by omega), hc]
        rw [if_neg (by simp; omega)]
        simp
      · cases h
    · cases h
theorem run_build_st {t : TypeId} {z : List SV} (ht : tyOf t = some (.st z)) : ∃ (pl : Nat → Option (Nat × Nat)) (zc : Array Value), (∀ i, i < z.length → pl i = some (i, 1)) ∧ hasL E w zc.toList z ∧
    ∀ (ps : Array (Nat × Value)) cs', Instr.fill pl zc ps.toList = some cs' → (Instr.build t ps).run Try.prog w = .ok (.agg cs') w := by
  unfold tyOf at ht
  repeat (
    rcases ite_ty ht with ⟨hb, hq⟩ | hq <;> clear ht <;> have ht := hq <;> clear hq
    · first
        | (simp at ht; done)
        | (obtain rfl := beq_iff_eq.1 hb
           simp only [Option.some.injEq, Ty.st.injEq] at ht
           subst ht
           refine ⟨fun i => [((0 : Nat), (1 : Nat)), (1, 1)][i]?, #[.int .i64 0, .int .i64 0], ?_, ⟨rfl, rfl, trivial⟩, fun ps cs' h => ?_⟩
           · intro i hi
             match i, hi with
             | 0, _ => rfl
             | 1, _ => rfl
             | i + 2, hi => exact absurd hi (by simp)
           · simp [Instr.build, go_sem, h])
        | (obtain rfl := beq_iff_eq.1 hb
           simp only [Option.some.injEq, Ty.st.injEq] at ht
           subst ht
           refine ⟨fun i => [((0 : Nat), (1 : Nat)), (1, 1), (2, 1)][i]?, #[.slice none 0 0, .slice none 0 0, .slice none 0 0], ?_, ⟨rfl, rfl, rfl, trivial⟩, fun ps cs' h => ?_⟩
           · intro i hi
             match i, hi with
             | 0, _ => rfl
             | 1, _ => rfl
             | 2, _ => rfl
             | i + 3, hi => exact absurd hi (by simp)
           · simp [Instr.build, go_sem, h]))
  cases ht
theorem fill_ok1 (n : Nat) : ∀ i, i < n → (fun i => some (i * 1, 1) : Nat → Option (Nat × Nat)) i = some (i, 1) := fun i _ => by simp
theorem run_build_z {t : TypeId} {z : List SV} (ht : stZ t = some z) : ∃ (pl : Nat → Option (Nat × Nat)) (zc : Array Value), (∀ i, i < z.length → pl i = some (i, 1)) ∧ hasL E w zc.toList z ∧
    ∀ (ps : Array (Nat × Value)) cs', Instr.fill pl zc ps.toList = some cs' → (Instr.build t ps).run Try.prog w = .ok (.agg cs') w := by
  rcases stZ_cases ht with h | h
  · exact run_build_st h
  · obtain ⟨⟨e, hu, hsz⟩, _, i, cs, hi, hz, hok⟩ := arOf_ok h
    refine ⟨fun i => some (i * 1, 1), cs, fill_ok1 _, zeroOk_has _ _ hok, fun ps cs' hf => ?_⟩
    cases hi2 : Try.prog.info? e with
    | none => rw [hi2] at hsz; simp at hsz
    | some inf =>
      rw [hi2] at hsz
      have h1 : inf.size = 1 := by simpa using hsz
      simp only [Nat.mul_one] at hf
      simp [Instr.build, zeroValue, typeInfo, hi, hz, run_underlying hu, sizeOf, hi2, h1, Value.cells, hf]
theorem qBuild_ok (t : TypeId) (parts : Array (Nat × Operand)) (h : qBuild G t parts.toList = some (p, r)) (hG : ∀ q ∈ parts.toList, (G q.2).has E w (a.eval q.2)) (hq : QOut E w r a ⟨dst, .build t parts, ty, pos, af, none⟩ K) :
    Oper.wp Try.prog ⟨dst, .build t parts, ty, pos, af, none⟩ a w K Q := by
  unfold qBuild at h
  split at h
  · rename_i z ht
    split at h
    · rename_i l hl
      injection h with h; injection h with h1 h2; subst h1 h2
      obtain ⟨pl, zc, hpl, hz, hrun⟩ := run_build_z (E := E) (w := w) ht
      obtain ⟨cs', e1, e2⟩ := parts_ok (a := a) (n := z.length) hpl parts.toList z l zc hG hl rfl hz
      refine wp_run (w' := w) (v := .agg cs') ?_ (hq _ w ⟨cs', rfl, e2⟩ (same_grown w))
      unfold execOp
      generalize a.eval = ρ at *
      have := hrun (parts.map fun x => (x.1, ρ x.2)) cs' (by simpa using e1)
      simp [this]
    · cases h
  · cases h
theorem flat_take {L : Nat → Prop} {A : Option Addr} {sz n cap m : Nat} {xs : List Value} (h : Flat L w (.slice A n cap) sz n xs) (hm : m ≤ n) : Flat L w (.slice A m cap) sz m (xs.take (m * sz)) := by
  obtain ⟨A', cap', e1, h1, h2, h3, h4⟩ := h
  injection e1 with q1 q2 q3
  subst q1 q3
  refine ⟨A, cap, rfl, by omega, h2, ?_, fun hn => ?_⟩
  · rw [List.length_take, h3]
    exact Nat.min_eq_left (Nat.mul_le_mul_right _ hm)
  · obtain ⟨b, off, e2, hb, hL, hc⟩ := h4 (by omega)
    refine ⟨b, off, e2, hb, hL, fun j u hu => ?_⟩
    rw [List.getElem?_take] at hu
    split at hu
    · exact hc j u hu
    · cases hu
theorem flat_drop {L : Nat → Prop} {A A' : Option Addr} {sz n cap m : Nat} {xs : List Value} (h : Flat L w (.slice A n cap) sz n xs) (hm : m ≤ n) (hA : m < n → ∀ b off, A = some ⟨b, off, none⟩ → A' = some ⟨b, off + m * sz, none⟩) :
    Flat L w (.slice A' (n - m) (cap - m)) sz (n - m) (xs.drop (m * sz)) := by
  obtain ⟨A2, cap', e1, h1, h2, h3, h4⟩ := h
  injection e1 with q1 q2 q3
  subst q1 q3
  refine ⟨A', cap - m, rfl, by omega, by omega, ?_, fun hn => ?_⟩
  · rw [List.length_drop, h3, Nat.sub_mul]
  · obtain ⟨b, off, e2, hb, hL, hc⟩ := h4 (by omega)
    refine ⟨b, off + m * sz, hA (by omega) b off e2, hb, hL, fun j u hu => ?_⟩
    rw [List.getElem?_drop] at hu
    rw [Nat.add_assoc]
    exact hc _ u hu
theorem ptCells_take (l : List Pt) (m : Nat) : (ptCells l).take (m * 2) = ptCells (l.take m) := by
  induction l generalizing m with
  | nil => simp [ptCells]
  | cons p l ih =>
    cases m with
    | zero => simp [ptCells]
    | succ m =>
      have := ih m
      simp only [ptCells, List.flatMap_cons, List.take_succ_cons] at *
      rw [show (m + 1) * 2 = m * 2 + 1 + 1 by omega]
      simp only [List.cons_append, List.nil_append, List.take_succ_cons, this]
theorem ptCells_drop (l : List Pt) (m : Nat) : (ptCells l).drop (m * 2) = ptCells (l.drop m) := by
  induction l generalizing m with
  | nil => simp [ptCells]
  | cons p l ih =>
    cases m with
    | zero => simp [ptCells]
    | succ m =>
      have := ih m
      simp only [ptCells, List.flatMap_cons, List.drop_succ_cons] at *
      rw [show (m + 1) * 2 = m * 2 + 1 + 1 by omega]
      simp only [List.cons_append, List.nil_append, List.drop_succ_cons, this]
theorem cells_cut {L : Nat → Prop} {xs : List Value} {c : Cont} {i : Int} (h : CellsOK L w xs c) (h0 : 0 ≤ i) (h1 : i ≤ c.len) : (c.cut i).len = i.toNat ∧ (c.cut i).sz = c.sz ∧ CellsOK L w (xs.take (i.toNat * c.sz)) (c.cut i) := by
  cases c with
  | ints l => simp only [CellsOK, Cont.cut, Cont.len, Cont.sz, itake] at *; subst h; exact ⟨by simp; omega, trivial, by simp [List.map_take]⟩
  | bools l => simp only [CellsOK, Cont.cut, Cont.len, Cont.sz, itake] at *; subst h; exact ⟨by simp; omega, trivial, by simp [List.map_take]⟩
  | pts l => simp only [CellsOK, Cont.cut, Cont.len, Cont.sz, itake] at *; subst h; exact ⟨by simp; omega, trivial, ptCells_take _ _⟩
  | intss l =>
    simp only [CellsOK, Cont.cut, Cont.len, Cont.sz, itake] at *
    refine ⟨by simp; omega, trivial, by simp [h.1], fun j u m hu hm => ?_⟩
    rw [List.getElem?_take] at hu hm
    split at hm
    · rw [if_pos (by omega)] at hu; exact h.2 j u m hu hm
    · cases hm
  | ptss l =>
    simp only [CellsOK, Cont.cut, Cont.len, Cont.sz, itake] at *
    refine ⟨by simp; omega, trivial, by simp [h.1], fun j u m hu hm => ?_⟩
    rw [List.getElem?_take] at hu hm
    split at hm
    · rw [if_pos (by omega)] at hu; exact h.2 j u m hu hm
    · cases hm
  | boolss l =>
    simp only [CellsOK, Cont.cut, Cont.len, Cont.sz, itake] at *
    refine ⟨by simp; omega, trivial, by simp [h.1], fun j u m hu hm => ?_⟩
    rw [List.getElem?_take] at hu hm
    split at hm
    · rw [if_pos (by omega)] at hu; exact h.2 j u m hu hm
    · cases hm
theorem cells_rest {L : Nat → Prop} {xs : List Value} {c : Cont} {i : Int} (h : CellsOK L w xs c) (h0 : 0 ≤ i) (h1 : i ≤ c.len) : (c.rest i).len = c.len - i.toNat ∧ (c.rest i).sz = c.sz ∧ CellsOK L w (xs.drop (i.toNat * c.sz)) (c.rest i) := by
  cases c with
  | ints l => simp only [CellsOK, Cont.rest, Cont.len, Cont.sz, idrop] at *; subst h; exact ⟨by simp, trivial, by simp [List.map_drop]⟩
  | bools l => simp only [CellsOK, Cont.rest, Cont.len, Cont.sz, idrop] at *; subst h; exact ⟨by simp, trivial, by simp [List.map_drop]⟩
  | pts l => simp only [CellsOK, Cont.rest, Cont.len, Cont.sz, idrop] at *; subst h; exact ⟨by simp, trivial, ptCells_drop _ _⟩
  | intss l =>
    simp only [CellsOK, Cont.rest, Cont.len, Cont.sz, idrop] at *
    refine ⟨by simp, trivial, by simp [h.1], fun j u m hu hm => ?_⟩
    rw [List.getElem?_drop] at hu hm
    exact h.2 _ u m (by simpa using hu) hm
  | ptss l =>
    simp only [CellsOK, Cont.rest, Cont.len, Cont.sz, idrop] at *
    refine ⟨by simp, trivial, by simp [h.1], fun j u m hu hm => ?_⟩
    rw [List.getElem?_drop] at hu hm
    exact h.2 _ u m (by simpa using hu) hm
  | boolss l =>
    simp only [CellsOK, Cont.rest, Cont.len, Cont.sz, idrop] at *
    refine ⟨by simp, trivial, by simp [h.1], fun j u m hu hm => ?_⟩
    rw [List.getElem?_drop] at hu hm
    exact h.2 _ u m (by simpa using hu) hm
theorem qCut_ok (t : TypeId) (x y : Operand) (h : qCut t (G x) (G y) = some (p, r)) (hp : p) (hx : (G x).has E w (a.eval x)) (hy : (G y).has E w (a.eval y))
    (hq : QOut E w r a ⟨dst, .slice t x none (some y) none, ty, pos, af, none⟩ K) :
    Oper.wp Try.prog ⟨dst, .slice t x none (some y) none, ty, pos, af, none⟩ a w K Q := by
  generalize hgx : G x = gx at *
  generalize hgy : G y = gy at *
  unfold qCut at h
  split at h
  · rename_i c i
    have ey : a.eval y = .int .i64 i := hy
    split at h
    · rename_i e c0 ht
      split at h
      · rename_i hs
        have hs' : c0.sz = c.sz := beq_iff_eq.1 hs
        injection h with h; injection h with h1 h2; subst h1 h2
        have i0 := hp.1.out
        have i1 := hp.2.out
        rw [Cont.ilen_eq] at i1
        obtain ⟨hu, _, inf, z, hinf, hsz, _⟩ := ty_sl ht
        obtain ⟨xs, hf, hc⟩ := hx
        obtain ⟨q1, q2, q3⟩ := cells_cut hc i0 i1
        have hf' := hf
        obtain ⟨A, cap, e1, hncap, _⟩ := hf
        rw [e1] at hf'
        have hF := flat_take hf' (show i.toNat ≤ c.len by omega)
        refine wp_run (w' := w) (v := .slice A i.toNat cap) ?_ (hq _ w ⟨_, by rw [q1, q2]; exact hF, q3⟩ (same_grown w))
        unfold execOp
        generalize a.eval = ρ at *
        have hcap : i ≤ (cap : Int) := by omega
        simp [e1, ey, Instr.sliceAt, Instr.slice, run_underlying hu, Instr.sliceBounds, Instr.sliceBound, asIntOf, i0, hcap, sizeOf, typeInfo, hinf]
        intro _
        cases A <;> simp [Addr.add]
      · cases h
    · cases h
  · cases h
theorem qRest_ok (t : TypeId) (x y : Operand) (h : qRest t (G x) (G y) = some (p, r)) (hp : p) (hx : (G x).has E w (a.eval x)) (hy : (G y).has E w (a.eval y))
    (hq : QOut E w r a ⟨dst, .slice t x (some y) none none, ty, pos, af, none⟩ K) :
    Oper.wp Try.prog ⟨dst, .slice t x (some y) none none, ty, pos, af, none⟩ a w K Q := by
  generalize hgx : G x = gx at *
  generalize hgy : G y = gy at *
  unfold qRest at h
  split at h
  · rename_i c i
    have ey : a.eval y = .int .i64 i := hy
    split at h
    · rename_i e c0 ht
      split at h
      · rename_i hs
        have hs' : c0.sz = c.sz := beq_iff_eq.1 hs
        injection h with h; injection h with h1 h2; subst h1 h2
        have i0 := hp.1.out
        have i1 := hp.2.out
        rw [Cont.ilen_eq] at i1
        obtain ⟨hu, _, inf, z, hinf, hsz, _⟩ := ty_sl ht
        obtain ⟨xs, hf, hc⟩ := hx
        obtain ⟨q1, q2, q3⟩ := cells_rest hc i0 i1
        have hf' := hf
        obtain ⟨A, cap, e1, hncap, _⟩ := hf
        rw [e1] at hf'
        have hF := flat_drop (A' := if cap = i.toNat then A else A.map (·.add (i.toNat * c.sz))) hf' (show i.toNat ≤ c.len by omega) (fun hlt b off hA => by
          rw [if_neg (by omega), hA]; simp [Addr.add_mid])
        refine wp_run (w' := w) (v := .slice (if cap = i.toNat then A else A.map (·.add (i.toNat * c.sz))) (c.len - i.toNat) (cap - i.toNat)) ?_ (hq _ w ⟨_, by rw [q1, q2]; exact hF, q3⟩ (same_grown w))
        unfold execOp
        generalize a.eval = ρ at *
        simp [e1, ey, Instr.sliceAt, Instr.slice, run_underlying hu, Instr.sliceBounds, Instr.sliceBound, asIntOf, i0, i1, sizeOf, typeInfo, hinf, hsz, ← hs']
      · cases h
    · cases h
  · cases h
/-- All of them. -/
theorem qOp_ok (hsig : SigOK sig) (o : Oper) (hg : o.guard = none) (hM : MemOK base E w B) (h : qOp sig B G o.op = some (p, r)) (hp : p) (hG : ∀ x, (G x).has E w (a.eval x))
    (hq : QOut E w r a o K) : o.wp Try.prog a w K Q := by
  obtain ⟨dst, op, ty, pos, af, gd⟩ := o
  simp only at hg h
  subst hg
  unfold qOp at h
  split at h
  · rename_i x
    injection h with h; injection h with h1 h2; subst h1 h2
    exact wp_run (w' := w) (v := a.eval x) rfl (hq _ w (hG x) (same_grown w))
  · rename_i x
    injection h with h; injection h with h1 h2; subst h1 h2
    exact wp_run (w' := w) (v := a.eval x) rfl (hq _ w (hG x) (same_grown w))
  · exact qBin_ok _ _ _ _ _ _ _ _ _ h hp (hG _) (hG _) hq
  · exact qUn_ok _ _ _ _ _ _ _ h (hG _) hq
  · exact qBuild_ok _ _ _ _ _ _ h (fun q _ => hG q.2) hq
  · exact qLoad_ok _ _ _ _ _ _ hM h hp (hG _) hq
  · exact qConv_ok _ _ _ _ _ _ _ h (hG _) hq
  · exact qFld_ok _ _ _ _ _ _ _ hM h hp (hG _) hq
  · exact qField_ok _ _ _ _ _ _ _ h (hG _) hq
  · exact qIdx_ok _ _ _ _ _ _ _ hM h hp (hG _) (hG _) hq
  · exact qExt_ok _ _ _ _ _ _ h (hG _) hq
  · exact qCut_ok _ _ _ _ _ _ _ h hp (hG _) (hG _) hq
  · exact qRest_ok _ _ _ _ _ _ _ h hp (hG _) (hG _) hq
  · split at h
    · rename_i x t ha hat
      split at h
      · rename_i e c0 ht; exact qLen_ok _ _ _ _ _ _ ha _ _ _ _ hat ht hM h (hG _) hq
      · split at h
        · rename_i hbt; exact qLenB_ok _ _ _ _ _ _ ha _ _ hat hbt h (hG _) hq
        · cases h
    · cases h
  · rename_i t args ats
    split at h
    · rename_i f x y hgx
      split at h
      · rename_i hxy
        have hf := hG (.tmp t)
        rw [hgx] at hf
        exact qCallV_ok _ _ _ _ hsig _ _ _ _ _ _ hM hf hxy h hp (fun x _ => hG x) hq
      · cases h
    · cases h
  · exact qMax_ok _ _ _ _ _ _ h (fun x _ => hG x) hq
  · exact qMin_ok _ _ _ _ _ _ h (fun x _ => hG x) hq
  · exact qCall_ok _ _ _ _ hsig _ _ _ hM h hp (fun x _ => hG x) hq
  · cases h
end
end Go.Proofs.Ytdpokkegkedlfaa
