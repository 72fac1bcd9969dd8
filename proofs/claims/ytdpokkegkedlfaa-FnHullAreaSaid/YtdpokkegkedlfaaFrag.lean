/- Parts of a body, each evaluated by itself: what is known ahead of one, what it leaves; calls in between. -/
import Derived.Test.YtdpokkegkedlfaaTabl
set_option maxRecDepth 100000
namespace Go.Proofs.Ytdpokkegkedlfaa
open Go.RowKit
def dropS : Nat → Code → Code
  | 0, c => c
  | n + 1, .seq _ c => dropS n c
  | _ + 1, c => c
/-- The first n + 1 statements. -/
def takeS : Nat → Code → Code
  | 0, .seq a _ => a
  | n + 1, .seq a c => .seq a (takeS n c)
  | _, c => c
def longS : Nat → Code → Bool
  | 0, .seq _ _ => true
  | n + 1, .seq _ c => longS n c
  | _, _ => false
/-! ### Slots that are not written stay -/
section
variable {P : Program} {Q : Exit → Act → World → Prop} {ds : Nat → Bool} {a0 : Act}
def Same (ds : Nat → Bool) (a0 a : Act) : Prop := ∀ s, ds s = false → a.tmps.getD s undef = a0.tmps.getD s undef
def KQ (Q : Exit → Act → World → Prop) (ds : Nat → Bool) (a0 : Act) : Exit → Act → World → Prop := fun e a w => Q e a w ∧ (e = .normal → Same ds a0 a)
theorem Same.put {a : Act} {dst : Option Nat} {v : Value} (h : Same ds a0 a) (hd : ∀ s, dst = some s → ds s = true) : Same ds a0 (a.put dst v) := by
  intro s hs
  cases dst with
  | none => exact h s hs
  | some d =>
    have hne : d ≠ s := fun e => by subst e; rw [hd d rfl] at hs; cases hs
    show (a.tmps.setIfInBounds d v).getD s undef = _
    simp only [Array.getD_eq_getD_getElem?, Array.getElem?_setIfInBounds]
    rw [if_neg hne]
    have := h s hs
    simpa only [Array.getD_eq_getD_getElem?] using this
theorem wpo_keep {o : Oper} {a : Act} {w : World} {K : Act → World → Prop} (h : Same ds a0 a) (hd : ∀ s, o.dst = some s → ds s = true) (hk : o.wp P a w K Q) : o.wp P a w (fun a w => K a w ∧ Same ds a0 a) (KQ Q ds a0) := by
  unfold Oper.wp at hk ⊢
  generalize (execOp a.eval o).run P w = r at hk ⊢
  unfold Oper.upon at hk ⊢
  split at hk
  · exact ⟨hk, h.put hd⟩
  · exact ⟨hk, h.put hd⟩
  · exact ⟨hk, Same.put (a := { a with defers := _ }) h hd⟩
  · refine hk.mono ?_
    intro e w' he
    cases e with
    | returned v => exact ⟨he, h.put hd⟩
    | panicked c => exact ⟨he, fun e => by cases e⟩
    | outgrown => obtain ⟨a', w', q⟩ := he; exact ⟨a', w', q, fun e => by cases e⟩
  · exact hk.mono fun v w' hv => ⟨hv, h.put hd⟩
  · exact ⟨hk, fun e => by cases e⟩
  · exact hk.elim
theorem letsOut_keep (h : LetsOut Q) : LetsOut (KQ Q ds a0) := by
  obtain ⟨a, w, h⟩ := h
  exact ⟨a, w, h, fun e => by cases e⟩
theorem wpAny_keep0 {md : Region.Mode} {ops : Array Oper} (hd : ∀ o ∈ ops.toList, ∀ s, o.dst = some s → ds s = true) : ∀ (fuel : Nat) (L : Array Bool) (a : Act) (w : World), Same ds a0 a → wpAny P md ops Q fuel L a w → wpAny P md ops (KQ Q ds a0) fuel L a w := by
  intro fuel
  induction fuel with
  | zero => intro L a w h hk; exact ⟨hk.1, hk.2, fun _ => h⟩
  | succ fuel ih =>
    intro L a w h hk
    refine ⟨fun hr => ⟨hk.1 hr, fun _ => h⟩, fun i hi => ?_⟩
    have h1 := hk.2 i hi
    unfold wpOp at h1 ⊢
    split at h1
    · exact ih _ a w h h1
    · rename_i o ho
      have ho' : o ∈ ops.toList := by
        have := Array.mem_of_getElem? ho
        simpa using this
      split at h1
      · rename_i hw
        rw [if_pos hw]
        rcases h1 with h1 | ⟨h1, h2⟩
        · exact .inl (Oper.wp_mono (fun a w hh => ih _ a w hh.2 hh.1) (wpo_keep h (hd o ho') h1))
        · exact .inr ⟨h1, letsOut_keep h2⟩
      · rename_i hw
        rw [if_neg hw]
        exact ih _ _ w (h.put (hd o ho')) h1
theorem wpAny_keep {md : Region.Mode} {ops : Array Oper} {fuel : Nat} {L : Array Bool} {a : Act} {w : World} (hd : ∀ o ∈ ops.toList, ∀ s, o.dst = some s → ds s = true) (hk : wpAny P md ops Q fuel L a w) : wpAny P md ops (KQ Q ds a) fuel L a w :=
  wpAny_keep0 hd fuel L a w (fun _ _ => rfl) hk
theorem wpList_keep0 {ops : Array Oper} : ∀ (l : List Oper) (a : Act) (w : World), (∀ o ∈ l, ∀ s, o.dst = some s → ds s = true) → Same ds a0 a → wpList P ops Q l a w → wpList P ops (KQ Q ds a0) l a w
  | [], a, w, _, h, hk => ⟨hk, fun _ => h⟩
  | o :: l, a, w, hd, h, hk => by
    have hd0 := hd o (List.mem_cons_self ..)
    have ih := fun a w => wpList_keep0 (ops := ops) l a w (fun o ho => hd o (List.mem_cons_of_mem _ ho))
    unfold wpList at hk ⊢
    split at hk
    · rename_i hw
      rw [if_pos hw]
      rcases hk with h1 | ⟨h1, h2⟩
      · exact .inl (Oper.wp_mono (fun a w hh => ih a w hh.2 hh.1) (wpo_keep h hd0 h1))
      · exact .inr ⟨h1, letsOut_keep h2⟩
    · rename_i hw
      rw [if_neg hw]
      exact ih _ w (h.put hd0) hk
theorem wpList_keep {ops : Array Oper} {l : List Oper} {a : Act} {w : World} (hd : ∀ o ∈ l, ∀ s, o.dst = some s → ds s = true) (hk : wpList P ops Q l a w) : wpList P ops (KQ Q ds a) l a w :=
  wpList_keep0 l a w hd (fun _ _ => rfl) hk
end
section
variable {sig : FuncId → List AV → Option Sg} {xs : XS} {base : Base} {N : Nat} {va : Nat → List Vary} {σ : St} {E : Env} {a : Act} {w : World} {Q : Exit → Act → World → Prop}
theorem evReg_okK (hsig : SigOK sig) (hxs : XSigOK xs) {id : Nat} {ops : Array Oper} {d : Bool} {k : St → Prop} {ds : Nat → Bool} (hds : ∀ o ∈ ops.toList, ∀ s, o.dst = some s → ds s = true) (hm : Try.prog.follows .mixedOrders = true) (h : Rel base N σ E a w) (hk : evReg sig xs N ops.toList d σ k) (hQ : ∀ σ' E' a' w', Rel base N σ' E' a' w' → k σ' → Q .normal a' w') :
    (Code.region id ops d).wp Try.prog (KQ Q ds a) a w := by
  obtain ⟨l⟩ := ops
  have hkl : ∀ o ∈ l, ∀ s, o.dst = some s → ds s = true := fun o ho s hs => hds o (by simpa using ho) s hs
  have hkp : ∀ o ∈ l.toArray.toList, ∀ s, o.dst = some s → ds s = true := hds
  unfold evReg at hk
  simp only at hk
  have hspec := fun hp => pRunC_spec (sig := sig) (σ := σ) (l := l) hp
  generalize hr : pRunC sig σ l = r at hk hspec
  obtain ⟨p, V, rest⟩ := r
  simp only at hk hspec
  split at hk
  case h_2 hfb =>
    cases d with
    | false => simp at hfb
    | true =>
      have hgr : Rel base N σ E a w.drew := h.grow ⟨rfl, rfl, rfl, Nat.le_refl _, fun _ _ _ => rfl⟩
      split at hk
      · refine wp_region_any hm ?_
        have := evPF_ok (Q := Q) hsig hxs hgr hk hQ
        exact wpAny_keep hkp (by simpa using this)
      split at hk
      · obtain ⟨hac0, hk⟩ := hk
        simp only [Bool.and_eq_true] at hac0
        obtain ⟨hac, hsel⟩ := hac0
        have hla : ∀ j, LA (Array.replicate l.length false) j = false := fun j => by
          simp [LA, Array.getD_eq_getD_getElem?, Array.getElem?_replicate]
          split <;> rfl
        have hQ0 : ∀ σ' E' a' w', Rel base N σ' E' a' w' → k σ' → (fun e a w => e = Exit.normal ∧ Q e a w) .normal a' w' := fun σ' E' a' w' h1 h2 => ⟨rfl, hQ σ' E' a' w' h1 h2⟩
        refine Code.wp_mono (Q := KQ (fun e a w => e = Exit.normal ∧ Q e a w) ds a) (fun _ _ _ h => ⟨h.1.2, h.2⟩) ?_
        refine wp_region_any hm ?_
        have hmok : ∀ m ∈ lzOf N l l 0, lz1 N l m ∧ 0 ≤ m.1 := fun m hm' => lzOf_ok l 0 (fun j o hj => by simpa using hj) m hm'
        have hset : ∀ j, LA (setM (lzOf N l l 0) (Array.replicate l.length false)) j = memN j (idxM (lzOf N l l 0)) := by
          intro j
          have h1 := setM_LA (lzOf N l l 0) (Array.replicate l.length false) (j := j) (fun m hm' => by
            obtain ⟨o, ho, _⟩ := (hmok m hm').1.1
            simpa using (List.getElem?_eq_some_iff.1 ho).1)
          rw [h1, hla]; simp
        have := lz_any (Q := fun e a w => e = Exit.normal ∧ Q e a w) hsel (fun c a w h => by cases h.1) (lzOf N l l 0) l.length (Array.replicate l.length false) σ a (by simp) (fun m hm' => (hmok m hm').1) (lzOf_sorted l 0) (fun m _ => hla _) (by
          unfold unl
          exact Nat.le_trans (List.length_filter_le _ _) (by simp)) hgr (fun F a' hu hR' => evAny_ok hsig hxs hac hQ0 F l.length [] (idxM (lzOf N l l 0)) _ _ E a' w.drew (by rw [setM_size]; simp) hset hu hR' hk)
        exact wpAny_keep hkp (by simpa using this)
      · refine wp_region_any hm ?_
        have := evVA_ok (Q := Q) hsig hxs hgr hk hQ
        exact wpAny_keep hkp (by simpa using this)
  case h_1 hfb =>
  obtain ⟨hb, hp, ht⟩ := hk
  obtain ⟨h2, h3, hV⟩ := hspec hp
  simp only [Bool.and_eq_true] at hb
  have hd := dstB_ok hb.1
  have hpre := h.pre hd
  have hcont : ∀ E' a' w', RJ σ base.bn l V E a w (fun j => decide (j < V.length)) E' a' w' → wpList Try.prog l.toArray Q (l.drop V.length) a' w' := by
    intro E' a' w' hJ
    rw [← h2]
    exact evTail_ok hsig hxs rest [] [] _ E' a' w' k (h.of_RJ hd hV hJ) TP.nil ht hQ
  cases d with
  | false =>
    refine wp_region_lit ?_
    have := list_prefix hsig hpre hV V.length 0 E a w (by omega) ((RJ_start hpre (.inl rfl)).congr fun j => by simp) hcont
    exact wpList_keep hkl (by simpa using this)
  | true =>
    have hb2 : acyc l 0 = true ∧ fullB V rest V.length = true := ⟨by simpa using hb.2, by simpa using hfb⟩
    have hS : Sem1 l V := by
      intro j e o hj ho
      obtain ⟨o', p', path, d, p0, f, nb, q0, _, _, _, _, _, _, _, _, _, q9⟩ := ent_of hV hj
      rw [ho] at q0; injection q0 with q0; subst q0
      rw [q9]
    have hfull := fullB_ok rest V hS h3 h2 hb2.2
    refine wp_region_any hm ?_
    have hla : ∀ j, LA (Array.replicate l.length false) j = false := fun j => by
      simp [LA, Array.getD_eq_getD_getElem?, Array.getElem?_replicate]
      split <;> rfl
    have := any_prefix hsig hpre hV hb2.1 hfull hcont l.length (Array.replicate l.length false) E a w.drew (by simp) (fun j hj => by rw [hla] at hj; cases hj) (fun j o hj => by rw [hla] at hj; cases hj) (by
      unfold unl
      exact Nat.le_trans (List.length_filter_le _ _) (by simp)) ((RJ_start hpre (.inr rfl)).congr fun j => hla j)
    exact wpAny_keep hkp (by simpa using this)
/-- Slots that a part writes. -/
def wrS : Code → List Nat
  | .region _ ops _ => ops.toList.filterMap (·.dst)
  | .seq x y => wrS x ++ wrS y
  | .cond _ x y => wrS x ++ wrS y
  | _ => []
/-- .. without loops. -/
def flatC : Code → Bool
  | .skip | .ret => true
  | .region _ _ _ => true
  | .seq x y => flatC x && flatC y
  | .cond _ x y => flatC x && flatC y
  | _ => false
def inS (l : List Nat) (s : Nat) : Bool := l.any (· == s)
theorem Same.trans {ds : Nat → Bool} {a b c : Act} (h : Same ds a b) (k : Same ds b c) : Same ds a c := fun s hs => (k s hs).trans (h s hs)
theorem Same.less {l : List Nat} {ds : Nat → Bool} {a b : Act} (h : Same (inS l) a b) (hl : ∀ s ∈ l, ds s = true) : Same ds a b := fun s hs => h s (by
  cases hi : inS l s with
  | false => rfl
  | true =>
    obtain ⟨t, ht, he⟩ := List.any_eq_true.1 hi
    obtain rfl := beq_iff_eq.1 he
    rw [hl t ht] at hs; cases hs)
theorem Same.refl (ds : Nat → Bool) (a : Act) : Same ds a a := fun _ _ => rfl
/-- What is evaluated, and that all other slots stay. -/
theorem ev_okK (hsig : SigOK sig) (hxs : XSigOK xs) (hm : Try.prog.follows .mixedOrders = true) {ds : Nat → Bool} : ∀ (c : Code) (id : Nat) (σ : St) (k : XE → St → Prop) (E : Env) (a : Act) (w : World) (Q : Exit → Act → World → Prop), flatC c = true → (∀ s ∈ wrS c, ds s = true) → Rel base N σ E a w → ev sig xs N va c id σ k →
    (∀ e σ' E' a' w', Rel base N σ' E' a' w' → k e σ' → (e = .normal → Same ds a a') → Q e.out a' w') → c.wp Try.prog Q a w := by
  intro c
  induction c with
  | skip => intro id σ k E a w Q _ _ h hk hQ; exact wp_skip (hQ .normal σ E a w h hk (fun _ => Same.refl _ _))
  | ret => intro id σ k E a w Q _ _ h hk hQ; exact wp_ret (hQ .ret σ E a w h hk (fun e => by cases e))
  | region i ops d =>
    intro id σ k E a w Q _ hd h hk hQ
    refine Code.wp_mono (Q := KQ (fun e a' w' => e = .normal ∧ ∃ σ' E', Rel base N σ' E' a' w' ∧ k .normal σ') ds a) ?_ (evReg_okK hsig hxs (fun o ho s hs => hd s (List.mem_filterMap.2 ⟨o, ho, hs⟩)) hm h hk fun σ' E' a' w' h' hk' => ⟨rfl, σ', E', h', hk'⟩)
    rintro e a' w' ⟨⟨rfl, σ', E', h', hk'⟩, hs⟩
    exact hQ .normal σ' E' a' w' h' hk' (fun _ => hs rfl)
  | seq x y ihx ihy =>
    intro id σ k E a w Q hf hd h hk hQ
    simp only [flatC, Bool.and_eq_true] at hf
    refine wp_seq (ihx id σ _ E a w _ hf.1 (fun s hs => hd s (List.mem_append_left _ hs)) h hk ?_)
    intro e σ' E' a' w' h' hk' hs
    cases e with
    | normal => exact ihy id σ' k E' a' w' Q hf.2 (fun s hs => hd s (List.mem_append_right _ hs)) h' hk' fun e2 σ2 E2 a2 w2 h2 hk2 hs2 => hQ e2 σ2 E2 a2 w2 h2 hk2 (fun e => (hs rfl).trans (hs2 e))
    | exit i => exact hQ (.exit i) σ' E' a' w' h' hk' (fun e => by cases e)
    | ret => exact hQ .ret σ' E' a' w' h' hk' (fun e => by cases e)
  | cond c x y ihx ihy =>
    intro id σ k E a w Q hf hd h hk hQ
    simp only [flatC, Bool.and_eq_true] at hf
    unfold ev at hk
    split at hk
    · rename_i b hb
      have hc : a.eval c = .bool b := by have := gS_has h c; rw [hb] at this; exact this
      exact wp_cond_split hc (fun ht => ihx id σ k E a w Q hf.1 (fun s hs => hd s (List.mem_append_left _ hs)) h (hk.1 ht) hQ) (fun hff => ihy id σ k E a w Q hf.2 (fun s hs => hd s (List.mem_append_right _ hs)) h (hk.2 hff) hQ)
    · exact hk.elim
  | _ => intro id σ k E a w Q hf; cases hf
theorem frag_wpK (hsig : SigOK sig) (hxs : XSigOK xs) (hm : Try.prog.follows .mixedOrders = true) {ds : Nat → Bool} : ∀ (n : Nat) (c : Code) (id : Nat) (σ : St) (k : XE → St → Prop) (E : Env) (a : Act) (w : World) (Q : Exit → Act → World → Prop), (longS n c && flatC (takeS n c) && (wrS (takeS n c)).all ds) = true → Rel base N σ E a w → ev sig xs N va (takeS n c) id σ k →
    (∀ e σ' E' a' w', Rel base N σ' E' a' w' → k e σ' → (e = .normal → Same ds a a') → Exit.then ((dropS (n + 1) c).wp Try.prog Q) Q e.out a' w') → c.wp Try.prog Q a w := by
  intro n
  induction n with
  | zero =>
    intro c id σ k E a w Q hl h hk hQ
    simp only [Bool.and_eq_true] at hl
    cases c with
    | seq x y => exact wp_seq (ev_okK hsig hxs hm x id σ k E a w _ hl.1.2 (fun s hs => List.all_eq_true.1 hl.2 s hs) h hk hQ)
    | _ => cases hl.1.1
  | succ n ih =>
    intro c id σ k E a w Q hl h hk hQ
    simp only [Bool.and_eq_true] at hl
    cases c with
    | seq x y =>
      obtain ⟨⟨l1, l2⟩, l3⟩ := hl
      have l2' : flatC x = true ∧ flatC (takeS n y) = true := by
        have : flatC (.seq x (takeS n y)) = true := l2
        simpa only [flatC, Bool.and_eq_true] using this
      have l3' : ∀ s ∈ wrS x ++ wrS (takeS n y), ds s = true := fun s hs => List.all_eq_true.1 l3 s hs
      refine wp_seq (ev_okK hsig hxs hm x id σ _ E a w _ l2'.1 (fun s hs => l3' s (List.mem_append_left _ hs)) h hk ?_)
      intro e σ' E' a' w' h' hk' hs
      cases e with
      | normal => exact ih y id σ' k E' a' w' Q (by simp only [Bool.and_eq_true]; exact ⟨⟨l1, l2'.2⟩, List.all_eq_true.2 fun s hs => l3' s (List.mem_append_right _ hs)⟩) h' hk' fun e2 σ2 E2 a2 w2 h2 hk2 hs2 => hQ e2 σ2 E2 a2 w2 h2 hk2 (fun e => (hs rfl).trans (hs2 e))
      | exit i => exact hQ (.exit i) σ' E' a' w' h' hk' (fun e => by cases e)
      | ret => exact hQ .ret σ' E' a' w' h' hk' (fun e => by cases e)
    | _ => cases hl.1.1
end
/-- What a part leaves in a slot: a value; a variable's address. -/
inductive EV
  | rv (r : RV)
  | bx (l : List SV)
def EV.has (n : Nat) (L0 : Nat → Prop) (w : World) (v : Value) : EV → Prop
  | .rv r => r.has n L0 w v
  | .bx l => ∃ g cs e, v = .pointer (some ⟨g, 0, none⟩) ∧ n ≤ g ∧ w.heap[g]? = some (.cells cs e (0, 0)) ∧ hasL (EL L0) w cs.toList l
def mEV (σ : St) (a : AV) : EV → Prop
  | .rv r => mRV σ a r
  | .bx l => match a with
    | .s (.ptr k 0) => match lookB σ.b k with
      | some (.box m) => Nat.blt 0 k = true ∧ mSVs σ m l
      | _ => False
    | _ => False
def mEnd (σ : St) : List (Nat × EV) → Prop
  | [] => True
  | (t, r) :: l => mEV σ (lookT σ.t t) r ∧ mEnd σ l
def fragK (extra : Prop) (ends : List (Nat × EV)) (rs : List ResultVar) (ret : List RV) : XE → St → Prop
  | .exit _, _ => False
  | .normal, σ => extra ∧ mEnd σ ends
  | .ret, σ => mRes σ rs ret
section
variable {base : Base} {N : Nat} {σ : St} {E : Env} {a : Act} {w : World}
theorem mEV_ok (h : Rel base N σ E a w) {av : AV} {r : EV} {v : Value} (hr : mEV σ av r) (hv : av.has E w v) : r.has base.w.heap.size base.L0 w v := by
  cases r with
  | rv r => exact mRV_ok h hr hv
  | bx l =>
    unfold mEV at hr
    simp only at hr
    split at hr
    · rename_i k
      split at hr
      · rename_i m hb
        obtain ⟨h0, hr⟩ := hr
        obtain ⟨g, cs, e, e1, _, e2, e3⟩ := h.mem.ok k _ hb
        have hv' : v = ptrIn (E.hd k) 0 := hv
        rw [e1] at hv'
        refine ⟨g, cs, e, hv', ?_, e2, mSVs_ok h hr e3⟩
        rcases h.fr.own k _ g hb (by rw [e1]; rfl) with q | ⟨q, _⟩
        · exact q
        · have := blt_iff.1 h0; omega
      · exact hr.elim
    · exact hr.elim
theorem mEnd_ok (h : Rel base N σ E a w) : ∀ {l : List (Nat × EV)}, mEnd σ l → ∀ t r, (t, r) ∈ l → r.has base.w.heap.size base.L0 w (a.tmps.getD t undef)
  | [], _, t, r, hm => by cases hm
  | (s, q) :: l, he, t, r, hm => by
    rcases List.mem_cons.1 hm with e | hm
    · injection e with e1 e2; subst e1 e2
      exact mEV_ok h he.1 (h.slots t)
    · exact mEnd_ok h he.2 t r hm
theorem lookT_cases : ∀ (S : List (Nat × AV)) (s : Nat), lookT S s = .s .top ∨ ∃ p ∈ S, p.1 = s ∧ lookT S s = p.2
  | [], s => .inl rfl
  | p :: S, s => by
    obtain ⟨k, b⟩ := p
    by_cases hk : k = s
    · subst hk; exact .inr ⟨_, List.mem_cons_self .., rfl, by simp [lookT]⟩
    · simp only [lookT]
      rw [if_neg (by simpa using hk)]
      rcases lookT_cases S s with h | ⟨p, hp, e⟩
      · exact .inl h
      · exact .inr ⟨p, List.mem_cons_of_mem _ hp, e⟩
theorem rel_frag {S : List (Nat × AV)} {B : List (Nat × Bx)} {m : Nat} (hN : a.tmps.size = N) (hd : a.defers = []) (hb : base.w.grownBy w base.X) (hS : ∀ p ∈ S, p.2.has E w (a.tmps.getD p.1 undef)) (hids : ∀ p ∈ S, ∀ k, p.2.on k = true → k < m)
    (hbids : ∀ k bx, lookB B k = some bx → k < m ∧ bx.idsOK (fun j => Nat.blt j m) = true) (hmem : MemOK base.bn E w (lookB B)) (hdist : ∀ k k' bx bx' g, lookB B k = some bx → lookB B k' = some bx' → blk (E.hd k) = some g → blk (E.hd k') = some g → k = k') (hfr : FrOK base (lookB B) m E) :
    Rel base N ⟨S, B, m⟩ E a w := by
  refine ⟨hN, hd, hb, fun s => ?_, fun s k hk => ?_, hbids, hmem, hdist, hfr⟩
  · show (lookT S s).has E w _
    rcases lookT_cases S s with h | ⟨p, hp, rfl, h⟩
    · rw [h]; trivial
    · rw [h]; exact hS p hp
  · show k < m
    have hk' : (lookT S s).on k = true := hk
    rcases lookT_cases S s with h | ⟨p, hp, rfl, h⟩
    · rw [h] at hk'; cases hk'
    · rw [h] at hk'; exact hids p hp k hk'
/-- No memory of the part's own. -/
theorem rel_frag0 {S : List (Nat × AV)} (hI : GInv w) (hN : a.tmps.size = N) (hd : a.defers = []) (hS : ∀ p ∈ S, p.2.has (EL fun _ => False) w (a.tmps.getD p.1 undef)) (hf : ∀ p ∈ S, ∀ k, p.2.on k = false) :
    Rel ⟨w, false, undef, fun _ => False, w.heap.size⟩ N ⟨S, [], 1⟩ (EL fun _ => False) a w :=
  rel_frag (base := ⟨w, false, undef, fun _ => False, w.heap.size⟩) hN hd ⟨rfl, rfl, rfl, Nat.le_refl _, fun _ _ _ => rfl⟩ hS (fun p hp k hk => by rw [hf p hp k] at hk; cases hk) (fun k bx hk => by cases hk)
    ⟨⟨fun _ h => h.elim, hI⟩, (fun k bx hk => by cases hk), (fun k bx b hk => by cases hk)⟩ (fun k k' bx bx' g hk => by cases hk)
    ⟨Nat.le_refl _, ⟨fun _ h => h.elim, hI⟩, (fun k bx b hk => by cases hk), fun _ h => h.elim, (fun h => by cases h), Nat.one_pos⟩
/-- Rows of the part's own. -/
def rowsB : Nat → List (TypeId × Cont × Value) → List (Nat × Bx)
  | _, [] => []
  | i, (e, c, _) :: l => (i, .row e c) :: rowsB (i + 1) l
def ER (R : List (TypeId × Cont × Value)) : Env := ⟨fun k => ((R[k - 1]?).map (·.2.2)).getD undef, fun b => ∃ r ∈ R, blk r.2.2 = some b, none⟩
theorem rowsB_look : ∀ (R : List (TypeId × Cont × Value)) (i k : Nat) (bx : Bx), lookB (rowsB i R) k = some bx → ∃ j e c v, k = i + j ∧ R[j]? = some (e, c, v) ∧ bx = .row e c
  | [], i, k, bx, h => by cases h
  | (e, c, v) :: R, i, k, bx, h => by
    simp only [rowsB, lookB] at h
    split at h
    · rename_i hk
      injection h with h
      exact ⟨0, e, c, v, (beq_iff_eq.1 hk).symm, rfl, h.symm⟩
    · obtain ⟨j, e', c', v', h1, h2, h3⟩ := rowsB_look R (i + 1) k bx h
      exact ⟨j + 1, e', c', v', by omega, by simpa using h2, h3⟩
theorem rel_fragR {w0 : World} {S : List (Nat × AV)} {R : List (TypeId × Cont × Value)} (hI0 : GInv w0) (hI : GInv w) (hN : a.tmps.size = N) (hd : a.defers = []) (hB : Bel w0 w) (hR : ∀ r ∈ R, Owned w0.heap.size (fun b => ∃ r ∈ R, blk r.2.2 = some b) w r.2.2 r.1 r.2.1)
    (hdist : ∀ (i j : Nat) (r r' : TypeId × Cont × Value) (b : Nat), R[i]? = some r → R[j]? = some r' → blk r.2.2 = some b → blk r'.2.2 = some b → i = j)
    (hS : ∀ p ∈ S, p.2.has (ER R) w (a.tmps.getD p.1 undef)) (hf : ∀ p ∈ S, ∀ k, p.2.on k = true → k < R.length + 1) :
    Rel ⟨w0, false, undef, fun _ => False, w0.heap.size⟩ N ⟨S, rowsB 1 R, R.length + 1⟩ (ER R) a w := by
  have hhd : ∀ j r, R[j]? = some r → (ER R).hd (1 + j) = r.2.2 := fun j r hr => by
    show ((R[1 + j - 1]?).map (·.2.2)).getD undef = _
    rw [Nat.add_sub_cancel_left, hr]; rfl
  have hlt : ∀ r ∈ R, ∀ b, blk r.2.2 = some b → w0.heap.size ≤ b ∧ b < w.heap.size := fun r hr b hb => (hR r hr).lt hb
  refine rel_frag (base := ⟨w0, false, undef, fun _ => False, w0.heap.size⟩) hN hd (bel_grown hB) hS hf (fun k bx hk => ?_) ⟨⟨fun b hb => ?_, hI⟩, fun k bx hk => ?_, fun k bx b hk hb => ?_⟩ (fun k k' bx bx' g h1 h2 h3 h4 => ?_) ⟨Nat.le_refl _, ⟨fun _ h => h.elim, hI0⟩, fun k bx b hk hb => ?_, fun _ h => h.elim, (fun h => by cases h), Nat.succ_pos _⟩
  · obtain ⟨j, e, c, v, rfl, hj, rfl⟩ := rowsB_look R 1 k bx hk
    have := (List.getElem?_eq_some_iff.1 hj).1
    exact ⟨by omega, rfl⟩
  · obtain ⟨r, hr, hb⟩ := hb
    have := hlt r hr b hb
    exact ⟨Nat.le_trans hI0.ng this.1, this.2⟩
  · obtain ⟨j, e, c, v, rfl, hj, rfl⟩ := rowsB_look R 1 k bx hk
    rw [hhd j _ hj]
    exact hR _ (List.mem_of_getElem? hj)
  · obtain ⟨j, e, c, v, rfl, hj, rfl⟩ := rowsB_look R 1 k bx hk
    rw [hhd j _ hj] at hb
    exact ⟨_, List.mem_of_getElem? hj, hb⟩
  · obtain ⟨j, e, c, v, rfl, hj, rfl⟩ := rowsB_look R 1 k bx h1
    obtain ⟨j', e', c', v', rfl, hj', rfl⟩ := rowsB_look R 1 k' bx' h2
    rw [hhd j _ hj] at h3
    rw [hhd j' _ hj'] at h4
    rw [hdist j j' _ _ g hj hj' h3 h4]
  · obtain ⟨j, e, c, v, rfl, hj, rfl⟩ := rowsB_look R 1 k bx hk
    rw [hhd j _ hj] at hb
    exact .inl (hlt _ (List.mem_of_getElem? hj) b hb).1
end
/-! ### A call between two parts -/
section
variable {ops : Array Oper} {rest : List Oper} {o : Oper} {Q : Exit → Act → World → Prop} {a : Act} {w : World}
theorem wpl_move {x : Operand} (hop : o.op = .move x) (hg : o.guard = none) (h : wpList Try.prog ops Q rest (a.put o.dst (a.eval x)) w) : wpList Try.prog ops Q (o :: rest) a w :=
  wpList_plain hg fun _ hK => by
    unfold Oper.wp execOp
    simp only [hop]
    exact hK _ _ h
theorem wpl_assign {x : Operand} (hop : o.op = .assign x) (hg : o.guard = none) (h : wpList Try.prog ops Q rest (a.put o.dst (a.eval x)) w) : wpList Try.prog ops Q (o :: rest) a w :=
  wpList_plain hg fun _ hK => by
    unfold Oper.wp execOp
    simp only [hop]
    exact hK _ _ h
theorem wpl_call {f : FuncId} {args : Array Operand} {ats : Array TypeId} (hop : o.op = .call ⟨.value (.func f), args, ats⟩) (hg : o.guard = none) (hen : (callFunc f (args.map a.eval)).run Try.prog w = .ok (.enter f (args.map a.eval)) w)
    (h : Calls Try.prog f (args.map a.eval) w fun e w' => ∃ v, e = .returned v ∧ wpList Try.prog ops Q rest (a.put o.dst v) w') : wpList Try.prog ops Q (o :: rest) a w :=
  wpList_plain hg fun K hK => by
    unfold Oper.wp
    rw [show execOp a.eval o = callFunc f (#[] ++ args.map a.eval ++ #[]) from by unfold execOp; rw [hop]; rfl]
    rw [Array.empty_append, Array.append_empty, hen]
    show Calls Try.prog f (args.map a.eval) w _
    refine h.mono ?_
    rintro e w' ⟨v, rfl, hv⟩
    exact hK _ _ hv
theorem fput_get {d s : Nat} {v : Value} (hd : d < a.tmps.size) : (a.put (some d) v).tmps.getD s undef = if s = d then v else a.tmps.getD s undef := by
  show (a.tmps.setIfInBounds d v).getD s undef = _
  simp only [Array.getD_eq_getD_getElem?, Array.getElem?_setIfInBounds]
  by_cases h : d = s
  · subst h; simp [hd]
  · rw [if_neg h, if_neg (fun e => h e.symm)]
theorem fput_size {d : Nat} {v : Value} : (a.put (some d) v).tmps.size = a.tmps.size := by
  show (a.tmps.setIfInBounds d v).size = _
  simp
end
def argsB : List Operand → List Nat → Bool
  | [], [] => true
  | .tmp t :: l, d :: m => t == d && argsB l m
  | _, _ => false
theorem argsB_eq : ∀ (l : List Operand) (m : List Nat), argsB l m = true → l = m.map Operand.tmp
  | [], [], _ => rfl
  | [], _ :: _, h => by cases h
  | x :: l, [], h => by cases x <;> cases h
  | x :: l, d :: m, h => by
    unfold argsB at h
    split at h
    · rename_i e1 e2; cases e1
    · rename_i t l' d' m' e1 e2
      injection e1 with e1 e3; injection e2 with e2 e4
      subst e1 e3 e2 e4
      rw [Bool.and_eq_true, beq_iff_eq] at h
      rw [h.1, argsB_eq _ _ h.2]; rfl
    · cases h
/-- A statement that calls one function on the values of slots, as it lies in the code. -/
def endB (f : FuncId) (e N : Nat) (acc : List Nat) : List Oper → Bool
  | [oc, oa] => match oc.op, oc.dst, oc.guard, oa.op, oa.dst, oa.guard with
    | .call ⟨.value (.func g), args, _⟩, some d, none, .assign (.tmp d'), some e', none => g == f && argsB args.toList acc && Nat.blt d N && d' == d && e' == e && Nat.blt e N
    | _, _, _, _, _, _ => false
  | _ => false
def mvB (all : List Nat) (N : Nat) (k : List Nat → List Oper → Bool) : List Nat → List Oper → List Nat → Bool
  | [], l, acc => k acc l
  | s :: ss, o :: l, acc => match o.op, o.dst, o.guard with
    | .move (.tmp s'), some d, none => s' == s && Nat.blt d N && !(inS all d) && !(inS acc d) && mvB all N k ss l (acc ++ [d])
    | _, _, _ => false
  | _ :: _, [], _ => false
def chkCall (f : FuncId) (srcs : List Nat) (e N : Nat) : Code → Bool
  | .region _ ops false => mvB srcs N (endB f e N) srcs ops.toList []
  | _ => false
theorem inS_iff {l : List Nat} {s : Nat} : inS l s = true ↔ s ∈ l := by simp [inS]
theorem eval_tmp (a : Act) (t : Nat) : a.eval (.tmp t) = a.tmps.getD t undef := rfl
theorem mv_ok {f : FuncId} {e N : Nat} {ops : Array Oper} {Q : Exit → Act → World → Prop} {a : Act} {w : World} {all : List Nat} {ds : Nat → Bool} (hen : ∀ args w, (callFunc f args).run Try.prog w = .ok (.enter f args) w) (he : ds e = true)
    (hcall : Calls Try.prog f (all.map fun s => a.tmps.getD s undef).toArray w fun en w' => ∃ v, en = .returned v ∧ ∀ a', a'.tmps.size = N → a'.defers = a.defers → Same ds a a' → a'.tmps.getD e undef = v → Q .normal a' w') :
    ∀ (ss : List Nat) (l : List Oper) (acc done : List Nat) (a1 : Act), all = done ++ ss → mvB all N (endB f e N) ss l acc = true → (∀ o ∈ l, ∀ s, o.dst = some s → ds s = true) → a1.tmps.size = N → a1.defers = a.defers → Same ds a a1 →
      acc.map (fun d => a1.tmps.getD d undef) = done.map (fun s => a.tmps.getD s undef) → (∀ s ∈ all, a1.tmps.getD s undef = a.tmps.getD s undef) → wpList Try.prog ops Q l a1 w
  | [], l, acc, done, a1, hall, hm, hd, hN, hdf, hs, hacc, _ => by
    unfold mvB endB at hm
    split at hm
    · rename_i oc oa
      split at hm
      · rename_i g args ats d d' e' q1 q2 q3 q4 q5 q6
        simp only [Bool.and_eq_true, beq_iff_eq] at hm
        obtain ⟨⟨⟨⟨⟨rfl, m2⟩, m3⟩, rfl⟩, rfl⟩, m6⟩ := hm
        have hargs : args.map a1.eval = (all.map fun s => a.tmps.getD s undef).toArray := by
          apply Array.ext'
          rw [Array.toList_map, argsB_eq _ _ m2, List.map_map]
          rw [List.append_nil] at hall
          rw [hall, ← hacc]
          rfl
        refine wpl_call q1 q3 (hen _ _) ?_
        rw [hargs]
        refine hcall.mono ?_
        rintro en w' ⟨v, rfl, hv⟩
        refine ⟨v, rfl, wpl_assign q4 q6 ?_⟩
        have hdN : d' < a1.tmps.size := by rw [hN]; exact blt_iff.1 m3
        have heN : e' < (a1.put (some d') v).tmps.size := by rw [fput_size, hN]; exact blt_iff.1 m6
        rw [q2, q5]
        have hd1 := hd oc (List.mem_cons_self ..)
        have hd2 := hd oa (List.mem_cons_of_mem _ (List.mem_cons_self ..))
        refine hv _ ?_ ?_ ?_ ?_
        · rw [fput_size, fput_size, hN]
        · exact hdf
        · exact (hs.put fun s e => hd1 s (by rw [q2]; exact e)).put fun s e => hd2 s (by rw [q5]; exact e)
        · rw [fput_get heN, if_pos rfl, eval_tmp, fput_get hdN, if_pos rfl]
      · cases hm
    · cases hm
  | s :: ss, [], acc, done, a1, hall, hm, hd, hN, hdf, hs, hacc, hall2 => by cases hm
  | s :: ss, o :: l, acc, done, a1, hall, hm, hd, hN, hdf, hs, hacc, hall2 => by
    unfold mvB at hm
    split at hm
    · rename_i s' d q1 q2 q3
      simp only [Bool.and_eq_true, beq_iff_eq, Bool.not_eq_true'] at hm
      obtain ⟨⟨⟨⟨rfl, m2⟩, m3⟩, m4⟩, m5⟩ := hm
      have hdN : d < a1.tmps.size := by rw [hN]; exact blt_iff.1 m2
      have hsm : s' ∈ all := by rw [hall]; simp
      refine wpl_move q1 q3 ?_
      rw [q2, eval_tmp]
      refine mv_ok hen he hcall ss l (acc ++ [d]) (done ++ [s']) _ (by rw [hall]; simp) m5 (fun o ho => hd o (List.mem_cons_of_mem _ ho)) (by rw [fput_size, hN]) hdf (hs.put fun s e => hd o (List.mem_cons_self ..) s (by rw [q2]; exact e)) ?_ (fun t ht => ?_)
      · rw [List.map_append, List.map_append]
        congr 1
        · rw [← hacc]
          refine List.map_congr_left fun t ht => ?_
          rw [fput_get hdN, if_neg]
          intro e
          subst e
          have := inS_iff.2 ht
          rw [this] at m4; cases m4
        · simp only [List.map_cons, List.map_nil]
          rw [fput_get hdN, if_pos rfl, hall2 s' hsm]
      · rw [fput_get hdN, if_neg]
        · exact hall2 t ht
        · intro e
          subst e
          have := inS_iff.2 ht
          rw [this] at m3; cases m3
    · cases hm
theorem call_item {c : Code} {f : FuncId} {srcs : List Nat} {e N : Nat} {Q : Exit → Act → World → Prop} {a : Act} {w : World} (h : (chkCall f srcs e N c && inS (wrS c) e) = true) (hN : a.tmps.size = N) (hen : ∀ args w, (callFunc f args).run Try.prog w = .ok (.enter f args) w)
    (hcall : Calls Try.prog f (srcs.map fun s => a.tmps.getD s undef).toArray w fun en w' => ∃ v, en = .returned v ∧ ∀ a', a'.tmps.size = N → a'.defers = a.defers → Same (inS (wrS c)) a a' → a'.tmps.getD e undef = v → Q .normal a' w') : c.wp Try.prog Q a w := by
  rw [Bool.and_eq_true] at h
  obtain ⟨h, he⟩ := h
  unfold chkCall at h
  split at h
  · rename_i id ops
    obtain ⟨l⟩ := ops
    refine wp_region_lit ?_
    exact mv_ok hen he hcall srcs l [] [] a rfl h (fun o ho s hs => inS_iff.2 (List.mem_filterMap.2 ⟨o, ho, hs⟩)) hN rfl (Same.refl _ _) rfl (fun _ _ => rfl)
  · cases h
/-- One statement of a body, by hand. -/
theorem item_wp {c : Code} {Q : Exit → Act → World → Prop} {a : Act} {w : World} (h : longS 0 c = true) (hx : (takeS 0 c).wp Try.prog (Exit.then ((dropS 1 c).wp Try.prog Q) Q) a w) : c.wp Try.prog Q a w := by
  cases c with
  | seq x y => exact wp_seq hx
  | _ => cases h
def hasS (E : Env) (w : World) (a : Act) : List (Nat × AV) → Prop
  | [] => True
  | (t, x) :: l => x.has E w (a.tmps.getD t undef) ∧ hasS E w a l
theorem hasS_all {E : Env} {w : World} {a : Act} : ∀ {l : List (Nat × AV)}, hasS E w a l → ∀ p ∈ l, p.2.has E w (a.tmps.getD p.1 undef)
  | [], _, p, hp => by cases hp
  | (t, x) :: l, h, p, hp => by
    rcases List.mem_cons.1 hp with rfl | hp
    · exact h.1
    · exact hasS_all h.2 p hp
def SV.noOn : SV → Bool
  | .ptr _ _ | .row _ | .rptr _ _ _ _ => false
  | _ => true
def AV.noOn : AV → Bool
  | .s a => a.noOn
  | .agg l => l.all (·.noOn)
theorem noOn_sv {s : SV} (h : s.noOn = true) (k : Nat) : s.on k = false := by cases s <;> first | rfl | cases h
theorem noOn_av {s : AV} (h : s.noOn = true) (k : Nat) : s.on k = false := by
  cases s with
  | s s => exact noOn_sv h k
  | agg l =>
    refine List.any_eq_false.2 fun s hs => ?_
    rw [noOn_sv (List.all_eq_true.1 h s hs) k]; simp
theorem rel_part {w : World} {a : Act} {N : Nat} {S : List (Nat × AV)} (hI : GInv w) (hN : a.tmps.size = N) (hd : a.defers = []) (hf : S.all (·.2.noOn) = true) (hS : hasS (EL fun _ => False) w a S) :
    Rel ⟨w, false, undef, fun _ => False, w.heap.size⟩ N ⟨S, [], 1⟩ (EL fun _ => False) a w :=
  rel_frag0 hI hN hd (hasS_all hS) fun p hp k => noOn_av (List.all_eq_true.1 hf p hp) k
theorem init_rel0 {w : World} {args : Array Value} {avs : List AV} {N : Nat} (hI : GInv w) (hA : hasA (EL fun _ => False) w args.toList avs) (hc : (avs.all (·.freeA) && Nat.ble avs.length N) = true) :
    Rel ⟨w, false, undef, fun _ => False, w.heap.size⟩ N (initS avs) (EL fun _ => False) { tmps := args ++ Array.replicate (N - args.size) undef, defers := [] } w := by
  rw [Bool.and_eq_true] at hc
  exact init_rel (base := ⟨w, false, undef, fun _ => False, w.heap.size⟩) (n := N) (m := 1) (b := []) rfl hA (fun x hx k hk => by rw [afree_on (List.all_eq_true.1 hc.1 x hx) k] at hk; cases hk) (Nat.le_of_ble_eq_true hc.2) (fun k bx hk => by cases hk) ⟨⟨fun _ h => h.elim, hI⟩, (fun k bx hk => by cases hk), (fun k bx b hk => by cases hk)⟩ (fun k k' bx bx' g hk => by cases hk)
    ⟨Nat.le_refl _, ⟨fun _ h => h.elim, hI⟩, (fun k bx b hk => by cases hk), fun _ h => h.elim, (fun h => by cases h), Nat.one_pos⟩
theorem frag_ret {wB w0 w : World} {n N : Nat} {σ : St} {E : Env} {a : Act} {fn : Func} (hR : Rel ⟨wB, false, undef, fun _ => False, n⟩ N σ E a w) (hk : mRes σ fn.results.toList [.s (.bool true)]) (hb : Bel w0 wB) (hc : Nat.ble fn.results.toList.length 5 = true) :
    a.defers = [] ∧ ∃ v, (results fn a.tmps).run Try.prog w = .ok v w ∧ (Ending.returned v = .returned (.bool true) ∧ Bel w0 w) := by
  obtain ⟨v, h1, h2, _⟩ := results_run hR hk (Nat.le_of_ble_eq_true hc) (Nat.zero_le _)
  have hb2 : wB.grownBy w none := hR.bel
  have hv : v = .bool true := h2
  exact ⟨hR.defers, v, h1, by rw [hv], hb.trans ⟨hb2.os, hb2.tape, hb2.output, hb2.size, fun k hk => hb2.block k hk (by simp)⟩⟩
theorem SV.less {L L' : Nat → Prop} {w : World} {v : Value} {s : SV} (hf : s.free = true) (hL : ∀ b, L' b → L b) (h : s.has (EL L) w v) : s.has (EL L') w v := by
  cases s <;> first | exact h | exact Reads.less (L' := L') h hL | exact BytesOK.less (L' := L') h hL | exact BytesL.less (L' := L') h hL | cases hf
theorem hasL_less {L L' : Nat → Prop} {w : World} (hL : ∀ b, L' b → L b) : ∀ {vs : List Value} {l : List SV}, l.all (·.free) = true → hasL (EL L) w vs l → hasL (EL L') w vs l
  | [], [], _, _ => trivial
  | [], _ :: _, _, h => h.elim
  | _ :: _, [], _, h => h.elim
  | v :: vs, s :: l, hf, h => by
    simp only [List.all_cons, Bool.and_eq_true] at hf
    exact ⟨SV.less hf.1 hL h.1, hasL_less hL hf.2 h.2⟩
theorem hasA_less {L L' : Nat → Prop} {w : World} (hL : ∀ b, L' b → L b) : ∀ {vs : List Value} {l : List AV}, l.all (·.freeA) = true → hasA (EL L) w vs l → hasA (EL L') w vs l
  | [], [], _, _ => trivial
  | [], _ :: _, _, h => h.elim
  | _ :: _, [], _, h => h.elim
  | v :: vs, .s s :: l, hf, h => by
    simp only [List.all_cons, Bool.and_eq_true] at hf
    exact ⟨SV.less hf.1 hL h.1, hasA_less hL hf.2 h.2⟩
  | v :: vs, .agg m :: l, hf, h => by
    simp only [List.all_cons, Bool.and_eq_true] at hf
    obtain ⟨cs, e, h1⟩ := h.1
    exact ⟨⟨cs, e, hasL_less hL hf.1 h1⟩, hasA_less hL hf.2 h.2⟩
theorem rel_bel {wB w : World} {n N : Nat} {σ : St} {E : Env} {a : Act} {v0 : Value} {L0 : Nat → Prop} (hR : Rel ⟨wB, false, v0, L0, n⟩ N σ E a w) : Bel wB w :=
  have hb2 : wB.grownBy w none := hR.bel
  ⟨hb2.os, hb2.tape, hb2.output, hb2.size, fun k hk => hb2.block k hk (by simp)⟩
theorem ginv_bel {w w' : World} (hI : GInv w) (hb : Bel w w') : GInv w' := GInv.keep hI (bel_grown hb) (fun b e => by cases e)
/-- What was read ahead of a world, and stays. -/
theorem reads_late {w w' : World} {v : Value} {c : Cont} {L : Nat → Prop} (h : Reads (fun _ => False) w v c) (hb : Bel w w') (hL : ∀ b, L b → w.heap.size ≤ b) : Reads L w' v c :=
  (h.more.step (bel_grown hb) (fun b e => by cases e)).less (fun b hb' => .inr (hL b hb'))
theorem init_get {args : Array Value} {N i : Nat} {v : Value} (h : args[i]? = some v) : (⟨args ++ Array.replicate (N - args.size) undef, []⟩ : Act).tmps.getD i undef = v := by
  show (args ++ Array.replicate (N - args.size) undef).getD i undef = v
  have hi : i < args.size := (Array.getElem?_eq_some_iff.1 h).1
  rw [Array.getD_eq_getD_getElem?, Array.getElem?_append_left hi, h]; rfl
/-! ### An arm made, and an arm marked, between two parts -/
section
variable {ops : Array Oper} {rest : List Oper} {o : Oper} {Q : Exit → Act → World → Prop} {a : Act} {w : World}
theorem wpl_load3 {t : TypeId} {x : Operand} {b : Nat} {x1 x2 x3 : Value} {e : TypeId} (hop : o.op = .load t x) (hg : o.guard = none) (ht : tyOf t = some (.st [.nil, .nil, .nil])) (hx : a.eval x = .pointer (some ⟨b, 0, none⟩)) (hb : w.heap[b]? = some (.cells #[x1, x2, x3] e (0, 0)))
    (h : wpList Try.prog ops Q rest (a.put o.dst (.agg #[x1, x2, x3])) w) : wpList Try.prog ops Q (o :: rest) a w :=
  wpList_plain hg fun _ hK => by
    have hr : (Instr.loadAt t (a.eval x)).run Try.prog w = .ok (.agg [x1, x2, x3].toArray) w := by
      rw [hx]
      refine run_loadAt_st ht rfl fun j u hu => ?_
      rw [Nat.zero_add]
      match j, hu with
      | 0, hu => injection hu with hu; subst hu; exact cell_of_row w b 0 _ _ _ hb
      | 1, hu => injection hu with hu; subst hu; exact cell_of_row w b 1 _ _ _ hb
      | 2, hu => injection hu with hu; subst hu; exact cell_of_row w b 2 _ _ _ hb
      | j + 3, hu => simp at hu
    unfold Oper.wp
    have e1 : (execOp a.eval o).run Try.prog w = .ok (.value (.agg #[x1, x2, x3])) w := by
      unfold execOp
      simp only [hop]
      generalize a.eval = ρ at *
      simp [hr, Result.andThen]
    rw [e1]
    exact hK _ _ h
theorem zero3 {l : List Value} (h : zeroOk [.nil, .nil, .nil] l = true) : l = [.slice none 0 0, .slice none 0 0, .slice none 0 0] := by
  match l, h with
  | [.slice none 0 0, .slice none 0 0, .slice none 0 0], _ => rfl
theorem wpl_alloc3 {t : TypeId} (hop : o.op = .alloc t) (hg : o.guard = none) (ht : stZ t = some [.nil, .nil, .nil])
    (h : wpList Try.prog ops Q rest (a.put o.dst (.pointer (some ⟨w.heap.size, 0, none⟩))) (w.alloc (.cells #[.slice none 0 0, .slice none 0 0, .slice none 0 0] t))) : wpList Try.prog ops Q (o :: rest) a w :=
  wpList_plain hg fun _ hK => by
    obtain ⟨_, i, cs, hi, hz, hok⟩ := ty_z ht
    have hcs : cs = #[.slice none 0 0, .slice none 0 0, .slice none 0 0] := by
      have := zero3 hok
      apply Array.ext'; exact this
    subst hcs
    unfold Oper.wp
    have e1 : (execOp a.eval o).run Try.prog w = .ok (.value (.pointer (some ⟨w.heap.size, 0, none⟩))) (w.alloc (.cells #[.slice none 0 0, .slice none 0 0, .slice none 0 0] t)) := by
      unfold execOp
      simp [hop, Instr.alloc, zeroValue, typeInfo, hi, hz, newVar, newRow, Value.cells]
    rw [e1]
    exact hK _ _ h
theorem wpl_store3 {t : TypeId} {x y : Operand} {g : Nat} {e : TypeId} {y1 y2 y3 r1 r2 r3 : Value} (hop : o.op = .store t x y) (hd : o.dst = none) (hg : o.guard = none) (ht : tyOf t = some (.st [.nil, .nil, .nil])) (hx : a.eval x = .pointer (some ⟨g, 0, none⟩)) (hy : a.eval y = .agg #[r1, r2, r3])
    (hb : w.heap[g]? = some (.cells #[y1, y2, y3] e (0, 0))) (h1 : r1.oneCell' = true) (h2 : r2.oneCell' = true) (h3 : r3.oneCell' = true)
    (h : ∀ w', w'.heap[g]? = some (.cells #[r1, r2, r3] e (0, 0)) → w.grownBy w' (some g) → wpList Try.prog ops Q rest a w') : wpList Try.prog ops Q (o :: rest) a w :=
  wpList_plain hg fun _ hK => by
    obtain ⟨_, _, _, _, hsz, _⟩ := ty_st ht
    have c0 : ∀ j, j < 3 → (w.cell? ⟨g, j, none⟩).isSome = true := fun j hj => by
      rw [cell_of_row w g j _ _ _ hb, Array.getElem?_eq_getElem (by simpa using hj)]; rfl
    have f0 : ∀ j, w.frozen? ⟨g, j, none⟩ = false := fun j => by simp [World.frozen?, hb]
    have hrun := run_storeAt_mid (P := Try.prog) w g 0 t #[r1, r2, r3] (fun j hj => ⟨by rw [Nat.zero_add]; exact c0 j (by simpa using hj), by rw [Nat.zero_add]; exact f0 j⟩) (by rw [hsz]; rfl) (by simp [h1, h2, h3])
    have s0 := heap_setCell_same w g 0 _ e r1 hb
    have s1 := heap_setCell_same _ g 1 _ e r2 s0
    have s2 := heap_setCell_same _ g 2 _ e r3 s1
    have gg : w.grownBy (((w.setCell ⟨g, 0, none⟩ r1).setCell ⟨g, 1, none⟩ r2).setCell ⟨g, 2, none⟩ r3) (some g) := grown_trans (grown_trans (grown_set w g 0 r1) (grown_set _ g 1 r2)) (grown_set _ g 2 r3)
    unfold Oper.wp
    have e1 : (execOp a.eval o).run Try.prog w = .ok .skip (((w.setCell ⟨g, 0, none⟩ r1).setCell ⟨g, 1, none⟩ r2).setCell ⟨g, 2, none⟩ r3) := by
      unfold execOp
      simp only [hop]
      generalize a.eval = ρ at *
      simp [hx, hy, hrun, Result.andThen, World.setCells]
    rw [e1]
    show _
    exact hK _ _ (by
      rw [hd]
      exact h _ s2 gg)
end
def chkArm (tl ti : TypeId) (f : FuncId) (p e N : Nat) : Code → Bool
  | .region _ ops false => match ops.toList with
    | [ol, oc, oa, os] => match ol.op, oc.op, oa.op, os.op with
      | .load t1 (.tmp p'), .call ⟨.value (.func g), ar, _⟩, .alloc t2, .store t3 (.tmp e') (.tmp d') => match ol.dst, oc.dst, oa.dst, os.dst with
        | some d1, some d2, some e2, none => ol.guard.isNone && oc.guard.isNone && oa.guard.isNone && os.guard.isNone && t1 == tl && p' == p && g == f && argsB ar.toList [d1] && t2 == ti && t3 == ti && e' == e && e2 == e && d' == d2 && !(d2 == e) && Nat.blt d1 N && Nat.blt d2 N && Nat.blt e N
        | _, _, _, _ => false
      | _, _, _, _ => false
    | _ => false
  | _ => false
theorem none_of {α : Type} {o : Option α} (h : o.isNone = true) : o = none := by cases o with | none => rfl | some _ => cases h
/-- 'x := toArm(a)', x a variable that is read as a struct. -/
theorem arm_item {c : Code} {tl ti : TypeId} {f : FuncId} {p e N b : Nat} {x1 x2 x3 : Value} {eb : TypeId} {Q : Exit → Act → World → Prop} {a : Act} {w : World} (h : (chkArm tl ti f p e N c && inS (wrS c) e) = true) (hN : a.tmps.size = N) (hen : ∀ args w, (callFunc f args).run Try.prog w = .ok (.enter f args) w)
    (htl : tyOf tl = some (.st [.nil, .nil, .nil])) (hti : tyOf ti = some (.st [.nil, .nil, .nil])) (hp : a.tmps.getD p undef = .pointer (some ⟨b, 0, none⟩)) (hb : w.heap[b]? = some (.cells #[x1, x2, x3] eb (0, 0)))
    (hcall : Calls Try.prog f #[.agg #[x1, x2, x3]] w fun en w' => ∃ r1 r2 r3, en = .returned (.agg #[r1, r2, r3]) ∧ (r1.oneCell' = true ∧ r2.oneCell' = true ∧ r3.oneCell' = true) ∧ ∀ a' w'' g, a'.tmps.size = N → a'.defers = a.defers → Same (inS (wrS c)) a a' → a'.tmps.getD e undef = .pointer (some ⟨g, 0, none⟩) → w'.heap.size ≤ g → w''.heap[g]? = some (.cells #[r1, r2, r3] ti (0, 0)) → Bel w' w'' → Q .normal a' w'') : c.wp Try.prog Q a w := by
  rw [Bool.and_eq_true] at h
  obtain ⟨h, he⟩ := h
  unfold chkArm at h
  split at h
  · rename_i id ops
    obtain ⟨l⟩ := ops
    simp only at h
    split at h
    · rename_i ol oc oa os
      split at h
      · rename_i t1 p' g ar ats t2 t3 e' d' q1 q2 q3 q4
        split at h
        · rename_i d1 d2 e2 k1 k2 k3 k4
          simp only [Bool.and_eq_true, beq_iff_eq, Bool.not_eq_true', beq_eq_false_iff_ne, ne_eq] at h
          obtain ⟨⟨⟨⟨⟨⟨⟨⟨⟨⟨⟨⟨⟨⟨⟨⟨g1, g2⟩, g3⟩, g4⟩, rfl⟩, rfl⟩, rfl⟩, m8⟩, rfl⟩, rfl⟩, rfl⟩, rfl⟩, rfl⟩, m14⟩, m15⟩, m16⟩, m17⟩ := h
          have hw : ∀ o ∈ [ol, oc, oa, os], ∀ s, o.dst = some s → inS (wrS (Code.region id ⟨[ol, oc, oa, os]⟩ false)) s = true := fun o ho s hs => inS_iff.2 (List.mem_filterMap.2 ⟨o, ho, hs⟩)
          refine wp_region_lit ?_
          refine wpl_load3 q1 (none_of g1) htl hp hb ?_
          rw [k1]
          have n1 : d1 < a.tmps.size := by rw [hN]; exact blt_iff.1 m15
          have hargs : ar.map (a.put (some d1) (.agg #[x1, x2, x3])).eval = #[.agg #[x1, x2, x3]] := by
            apply Array.ext'
            rw [Array.toList_map, argsB_eq _ _ m8]
            simp only [List.map_cons, List.map_nil, eval_tmp, fput_get n1, if_true]
          refine wpl_call q2 (none_of g2) (hen _ _) ?_
          rw [hargs]
          refine hcall.mono ?_
          rintro en w' ⟨r1, r2, r3, rfl, ⟨o1, o2, o3⟩, hv⟩
          refine ⟨_, rfl, ?_⟩
          rw [k2]
          have n2 : d' < (a.put (some d1) (.agg #[x1, x2, x3])).tmps.size := by rw [fput_size, hN]; exact blt_iff.1 m16
          refine wpl_alloc3 q3 (none_of g3) (by unfold stZ; rw [hti]) ?_
          rw [k3]
          have n3 : e2 < ((a.put (some d1) (.agg #[x1, x2, x3])).put (some d') (.agg #[r1, r2, r3])).tmps.size := by rw [fput_size, fput_size, hN]; exact blt_iff.1 m17
          refine wpl_store3 q4 k4 (none_of g4) hti (by rw [eval_tmp, fput_get n3, if_pos rfl]) (by rw [eval_tmp, fput_get n3, if_neg m14, fput_get n2, if_pos rfl]) (heap_alloc_new w' _) o1 o2 o3 fun w'' hh hgr => ?_
          refine hv _ w'' w'.heap.size ?_ rfl ?_ ?_ (Nat.le_refl _) hh ?_
          · rw [fput_size, fput_size, fput_size, hN]
          · exact (((Same.refl _ a).put fun s e => hw ol (by simp) s (by rw [k1]; exact e)).put fun s e => hw oc (by simp) s (by rw [k2]; exact e)).put fun s e => hw oa (by simp) s (by rw [k3]; exact e)
          · rw [fput_get n3, if_pos rfl]
          · exact bel_step ((Bel.refl w').alloc _) hgr (fun b e => by injection e with e; omega)
        · cases h
      · cases h
    · cases h
  · cases h
def chkMark (ti : TypeId) (f : FuncId) (p q e N : Nat) : Code → Bool
  | .region _ ops false => match ops.toList with
    | [ol, om, oc, oa] => match ol.op, om.op, oc.op, oa.op with
      | .load t1 (.tmp p'), .move (.tmp q'), .call ⟨.value (.func g), ar, _⟩, .assign (.tmp d') => match ol.dst, om.dst, oc.dst, oa.dst with
        | some d1, some d2, some d3, some e' => ol.guard.isNone && om.guard.isNone && oc.guard.isNone && oa.guard.isNone && t1 == ti && p' == p && q' == q && g == f && argsB ar.toList [d1, d2] && d' == d3 && e' == e && !(d1 == q) && !(d1 == d2) && Nat.blt d1 N && Nat.blt d2 N && Nat.blt d3 N && Nat.blt e N
        | _, _, _, _ => false
      | _, _, _, _ => false
    | _ => false
  | _ => false
/-- 'k = markArm(x, k)'. -/
theorem mark_item {c : Code} {ti : TypeId} {f : FuncId} {p q e N b : Nat} {x1 x2 x3 vq : Value} {eb : TypeId} {Q : Exit → Act → World → Prop} {a : Act} {w : World} (h : (chkMark ti f p q e N c && inS (wrS c) e) = true) (hN : a.tmps.size = N) (hen : ∀ args w, (callFunc f args).run Try.prog w = .ok (.enter f args) w)
    (hti : tyOf ti = some (.st [.nil, .nil, .nil])) (hp : a.tmps.getD p undef = .pointer (some ⟨b, 0, none⟩)) (hb : w.heap[b]? = some (.cells #[x1, x2, x3] eb (0, 0))) (hq : a.tmps.getD q undef = vq)
    (hcall : Calls Try.prog f #[.agg #[x1, x2, x3], vq] w fun en w' => ∃ v, en = .returned v ∧ ∀ a', a'.tmps.size = N → a'.defers = a.defers → Same (inS (wrS c)) a a' → a'.tmps.getD e undef = v → Q .normal a' w') : c.wp Try.prog Q a w := by
  rw [Bool.and_eq_true] at h
  obtain ⟨h, he⟩ := h
  unfold chkMark at h
  split at h
  · rename_i id ops
    obtain ⟨l⟩ := ops
    simp only at h
    split at h
    · rename_i ol om oc oa
      split at h
      · rename_i t1 p' q' g ar ats d' q1 q2 q3 q4
        split at h
        · rename_i d1 d2 d3 e' k1 k2 k3 k4
          simp only [Bool.and_eq_true, beq_iff_eq, Bool.not_eq_true', beq_eq_false_iff_ne, ne_eq] at h
          obtain ⟨⟨⟨⟨⟨⟨⟨⟨⟨⟨⟨⟨⟨⟨⟨⟨g1, g2⟩, g3⟩, g4⟩, rfl⟩, rfl⟩, rfl⟩, rfl⟩, m9⟩, rfl⟩, rfl⟩, m12⟩, m13⟩, m14⟩, m15⟩, m16⟩, m17⟩ := h
          have hw : ∀ o ∈ [ol, om, oc, oa], ∀ s, o.dst = some s → inS (wrS (Code.region id ⟨[ol, om, oc, oa]⟩ false)) s = true := fun o ho s hs => inS_iff.2 (List.mem_filterMap.2 ⟨o, ho, hs⟩)
          refine wp_region_lit ?_
          refine wpl_load3 q1 (none_of g1) hti hp hb ?_
          rw [k1]
          have n1 : d1 < a.tmps.size := by rw [hN]; exact blt_iff.1 m14
          refine wpl_move q2 (none_of g2) ?_
          rw [k2, eval_tmp, fput_get n1, if_neg (fun e => m12 e.symm), hq]
          have n2 : d2 < (a.put (some d1) (.agg #[x1, x2, x3])).tmps.size := by rw [fput_size, hN]; exact blt_iff.1 m15
          have hargs : ar.map ((a.put (some d1) (.agg #[x1, x2, x3])).put (some d2) vq).eval = #[.agg #[x1, x2, x3], vq] := by
            apply Array.ext'
            rw [Array.toList_map, argsB_eq _ _ m9]
            simp only [List.map_cons, List.map_nil, eval_tmp, fput_get n2, fput_get n1, if_true, if_neg m13]
          refine wpl_call q3 (none_of g3) (hen _ _) ?_
          rw [hargs]
          refine hcall.mono ?_
          rintro en w' ⟨v, rfl, hv⟩
          refine ⟨_, rfl, ?_⟩
          rw [k3]
          have n3 : d' < ((a.put (some d1) (.agg #[x1, x2, x3])).put (some d2) vq).tmps.size := by rw [fput_size, fput_size, hN]; exact blt_iff.1 m16
          refine wpl_assign q4 (none_of g4) ?_
          rw [k4, eval_tmp, fput_get n3, if_pos rfl]
          have n4 : e' < (((a.put (some d1) (.agg #[x1, x2, x3])).put (some d2) vq).put (some d') v).tmps.size := by rw [fput_size, fput_size, fput_size, hN]; exact blt_iff.1 m17
          refine hv _ ?_ rfl ?_ ?_
          · rw [fput_size, fput_size, fput_size, fput_size, hN]
          · exact ((((Same.refl _ a).put fun s e => hw ol (by simp) s (by rw [k1]; exact e)).put fun s e => hw om (by simp) s (by rw [k2]; exact e)).put fun s e => hw oc (by simp) s (by rw [k3]; exact e)).put fun s e => hw oa (by simp) s (by rw [k4]; exact e)
          · rw [fput_get n4, if_pos rfl]
        · cases h
      · cases h
    · cases h
  · cases h
/-- A struct of three rows, read as a slice of three. -/
theorem vptr3_of {w w1 : World} {g : Nat} {cs : Array Value} {e : TypeId} {x y z : List Int} {v : Value} {E : Env} (hv : v = .pointer (some ⟨g, 0, none⟩)) (hg : w.heap[g]? = some (.cells cs e (0, 0))) (hc : hasL (EL fun _ => False) w1 cs.toList [.view (.ints x), .view (.ints y), .view (.ints z)]) (hb : Bel w1 w) (hL : ¬ E.lv g) (hL2 : ∀ b, E.lv b → w1.heap.size ≤ b) :
    SV.has E w v (.vptr (.intss [x, y, z]) 0 0) := by
  obtain ⟨cl⟩ := cs
  match cl, hc with
  | [p, q, r], ⟨hp, hq, hr, _⟩ =>
    obtain ⟨ys1, f1, rfl⟩ := reads_late hp hb hL2
    obtain ⟨ys2, f2, rfl⟩ := reads_late hq hb hL2
    obtain ⟨ys3, f3, rfl⟩ := reads_late hr hb hL2
    refine ⟨g, 0, 3, 3, by rw [hv]; rfl, ⟨[p, q, r], ⟨some ⟨g, 0, none⟩, 3, rfl, Nat.le_refl _, by unfold maxLen; omega, rfl, fun _ => ⟨g, 0, rfl, heap_lt hg, hL, fun j u hu => ?_⟩⟩, rfl, fun i u m hu hm => ?_⟩, by omega, by simp [Cont.len]⟩
    · rw [Nat.zero_add]
      match j, hu with
      | 0, hu => injection hu with hu; subst hu; exact cell_of_row w g 0 _ _ _ hg
      | 1, hu => injection hu with hu; subst hu; exact cell_of_row w g 1 _ _ _ hg
      | 2, hu => injection hu with hu; subst hu; exact cell_of_row w g 2 _ _ _ hg
      | j + 3, hu => simp at hu
    · match i, hu, hm with
      | 0, hu, hm => injection hu with hu; injection hm with hm; subst hu hm; exact f1
      | 1, hu, hm => injection hu with hu; injection hm with hm; subst hu hm; exact f2
      | 2, hu, hm => injection hu with hu; injection hm with hm; subst hu hm; exact f3
      | i + 3, hu, hm => simp at hu
theorem vptr_of {w w1 : World} {g : Nat} {cs : Array Value} {e : TypeId} {x y : Int} {v : Value} {E : Env} (hv : v = .pointer (some ⟨g, 0, none⟩)) (hg : w.heap[g]? = some (.cells cs e (0, 0))) (hc : hasL (EL fun _ => False) w1 cs.toList [.int x, .int y]) (hL : ¬ E.lv g) :
    SV.has E w v (.vptr (.pts [(x, y)]) 0 0) := by
  obtain ⟨cl⟩ := cs
  match cl, hc with
  | [p, q], ⟨hp, hq, _⟩ =>
    have hp' : p = .int .i64 x := hp
    have hq' : q = .int .i64 y := hq
    subst hp' hq'
    refine ⟨g, 0, 1, 1, by rw [hv]; rfl, ⟨_, ⟨some ⟨g, 0, none⟩, 1, rfl, Nat.le_refl _, by unfold maxLen; omega, rfl, fun _ => ⟨g, 0, rfl, heap_lt hg, hL, fun j u hu => ?_⟩⟩, rfl⟩, by omega, by simp [Cont.len]⟩
    rw [Nat.zero_add]
    match j, hu with
    | 0, hu => simp [ptCells] at hu; subst hu; exact cell_of_row w g 0 _ _ _ hg
    | 1, hu => simp [ptCells] at hu; subst hu; exact cell_of_row w g 1 _ _ _ hg
    | j + 2, hu => simp [ptCells] at hu
end Go.Proofs.Ytdpokkegkedlfaa
