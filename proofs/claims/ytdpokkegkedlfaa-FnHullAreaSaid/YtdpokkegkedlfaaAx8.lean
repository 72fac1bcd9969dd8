/- A region up to its first operation that writes: both ways in which a region is carried out. -/
import Derived.Test.YtdpokkegkedlfaaAx7
namespace Go.Proofs.Ytdpokkegkedlfaa
open Go.RowKit
set_option maxRecDepth 10000
section
variable {sig : FuncId → List AV → Option Sg} {σ : St} {base : Nat} {ops : List Oper} {V : List Ent} {Ez E : Env} {az a : Act} {wz w : World} {L : Nat → Bool}
theorem RJ.congr {L' : Nat → Bool} (h : RJ σ base ops V Ez az wz L E a w) (hL : ∀ k, L' k = L k) : RJ σ base ops V Ez az wz L' E a w := by
  have : L' = L := funext hL
  rw [this]; exact h
theorem aft_lt (hV : VOK sig σ ops V) {i : Nat} {o : Oper} (ho : ops[i]? = some o) (hi : i < V.length) {j : Nat} (hj : hasAft o.after.toList j = true) : j < i := by
  obtain ⟨e, he⟩ : ∃ e, V[i]? = some e := ⟨V[i], List.getElem?_eq_getElem hi⟩
  refine dp_lt hV he ?_
  obtain ⟨o', _, _, _, _, _, _, q0, _, _, _, _, _, _, _, _, _, q9⟩ := ent_of hV he
  rw [ho] at q0; injection q0 with q0; subst q0
  rw [q9]
  simp only
  rw [dpOf_bit]
  obtain ⟨ed, he1, he2⟩ := List.any_eq_true.1 hj
  simp only [Bool.and_eq_true, beq_iff_eq] at he2
  exact ⟨ed, he1, he2.2, .inl he2.1⟩
/-- In the order of the text. -/
theorem list_prefix (hsig : SigOK sig) (hpre : PreR σ base ops Ez az wz) (hV : VOK sig σ ops V) {Q : Exit → Act → World → Prop} :
    ∀ (n k : Nat) (E : Env) (a : Act) (w : World), k + n = V.length → RJ σ base ops V Ez az wz (fun j => decide (j < k)) E a w →
      (∀ E a w, RJ σ base ops V Ez az wz (fun j => decide (j < V.length)) E a w → wpList Try.prog ops.toArray Q (ops.drop V.length) a w) → wpList Try.prog ops.toArray Q (ops.drop k) a w
  | 0, k, E, a, w, hk, hJ, hc => by
    obtain rfl : k = V.length := by omega
    exact hc E a w hJ
  | n + 1, k, E, a, w, hk, hJ, hc => by
    have hko : k < ops.length := by have := hV.1; omega
    rw [List.drop_eq_getElem_cons hko]
    refine wpList_step fun K hK => ?_
    refine step_ok hsig hpre hV hJ (i := k) (List.getElem?_eq_getElem hko) (by omega) (by simp) (fun j hj => ?_) ?_
    · have := aft_lt hV (List.getElem?_eq_getElem hko) (by omega) hj
      simpa using this
    · intro E' a' w' hJ'
      refine hK _ _ (list_prefix hsig hpre hV n (k + 1) E' a' w' (by omega) (hJ'.congr fun j => ?_) hc)
      by_cases hj : j = k
      · subst hj; simp [withL]
      · rw [withL_ne hj]
        by_cases h : j < k
        · simp [h, show j < k + 1 by omega]
        · simp [h, show ¬ j < k + 1 by omega]
/-- At the beginning nothing has been carried out. -/
theorem RJ_start (hpre : PreR σ base ops Ez az wz) (hw : w = wz ∨ w = wz.drew) : RJ σ base ops V Ez az wz (fun _ => false) Ez az w := by
  have hsub : ∀ k bx, rB σ V (fun _ => false) k = some bx → lookB σ.b k = some bx := by
    intro k bx h
    rcases rB_cases h with h | ⟨_, _, h, _⟩
    · exact h
    · cases h
  have hev : Evo Ez Ez wz w := by
    rcases hw with rfl | rfl
    · exact Evo.refl _ _
    · exact ⟨Nat.le_refl _, fun _ _ _ => rfl, fun _ _ h => h, fun _ h => h⟩
  have hgr : wz.grownBy w none := by
    rcases hw with rfl | rfl
    · exact same_grown _
    · exact ⟨rfl, rfl, rfl, Nat.le_refl _, fun _ _ _ => rfl⟩
  exact ⟨rfl, rfl, fun _ _ => rfl, fun _ _ => rfl, hev, hgr, (mem_grow hpre.mem hgr).mono hsub, fun k k' bx bx' g h1 h2 => hpre.dist k k' bx bx' g (hsub k bx h1) (hsub k' bx' h2),
    (fun j e hj => by cases hj), (fun j e d hj => by cases hj), (fun j hj => by cases hj), (fun _ h => h), (fun k bx b h1 h2 => by rw [hsub k bx h1] at h2; cases h2)⟩
/-- Listed operations have what they wait for behind them. -/
def DC (ops : List Oper) (L : Nat → Bool) : Prop := ∀ j o, L j = true → ops[j]? = some o → ∀ k, hasAft o.after.toList k = true → L k = true
/-- What is left waits for all ahead of it. -/
def Full (ops : List Oper) (m : Nat) : Prop := ∀ k o, m ≤ k → ops[k]? = some o → ∀ L : Nat → Bool, DC ops L → (∀ j, hasAft o.after.toList j = true → L j = true) → ∀ j, j < k → L j = true
def acyc : List Oper → Nat → Bool
  | [], _ => true
  | o :: l, k => o.after.toList.all (fun e => !Region.binds .any e || Nat.blt e.on k) && acyc l (k + 1)
theorem acyc_lt : ∀ (l : List Oper) (k i : Nat) (o : Oper), acyc l k = true → l[i]? = some o → ∀ j, hasAft o.after.toList j = true → j < k + i
  | [], _, _, _, _, h, _, _ => by simp at h
  | o :: l, k, i, o', h, hi, j, hj => by
    simp only [acyc, Bool.and_eq_true] at h
    cases i with
    | zero =>
      simp only [List.getElem?_cons_zero, Option.some.injEq] at hi
      subst hi
      obtain ⟨ed, he1, he2⟩ := List.any_eq_true.1 hj
      simp only [Bool.and_eq_true, beq_iff_eq] at he2
      have := List.all_eq_true.1 h.1 ed he1
      rw [he2.2] at this
      have := blt_iff.1 (by simpa using this)
      omega
    | succ i =>
      have := acyc_lt l (k + 1) i o' h.2 (by simpa using hi) j hj
      omega
def LA (listed : Array Bool) : Nat → Bool := fun j => listed.getD j false
theorem LA_set {listed : Array Bool} {i : Nat} (hi : i < listed.size) (j : Nat) : LA (listed.setIfInBounds i true) j = withL (LA listed) i j := by
  unfold LA
  by_cases hj : j = i
  · subst hj; simp [Array.getD_eq_getD_getElem?, hi, withL]
  · rw [withL_ne hj]; simp [Array.getD_eq_getD_getElem?, Ne.symm hj]
theorem mem_rdy {listed : Array Bool} {i : Nat} (hs : listed.size = ops.length) : i ∈ Region.ready .any ops.toArray listed ↔ LA listed i = false ∧ ∃ o, ops[i]? = some o ∧ ∀ j, hasAft o.after.toList j = true → LA listed j = true := by
  unfold Region.ready LA
  rw [List.mem_filter]
  constructor
  · rintro ⟨h1, h2⟩
    have his : i < ops.length := by simpa using h1
    have hoi : ops.toArray[i]? = some ops[i] := by simp [his]
    rw [hoi] at h2
    simp only [Option.map_some, Option.getD_some, Bool.and_eq_true, Array.all_eq_true'] at h2
    have hil : i < listed.size := by omega
    refine ⟨?_, ops[i], by simp [his], fun j hj => ?_⟩
    · have := h2.1; simp [Array.getD_eq_getD_getElem?, hil] at this ⊢; exact this
    · obtain ⟨ed, he1, he2⟩ := List.any_eq_true.1 hj
      simp only [Bool.and_eq_true, beq_iff_eq] at he2
      have := h2.2 ed (Array.mem_toList_iff.1 he1)
      rw [he2.2] at this
      rw [← he2.1]
      simpa using this
  · rintro ⟨h1, o, ho, h2⟩
    have his : i < ops.length := (List.getElem?_eq_some_iff.1 ho).1
    have hoi : ops.toArray[i]? = some o := by simpa using ho
    refine ⟨by simpa using his, ?_⟩
    rw [hoi]
    simp only [Option.map_some, Option.getD_some, Bool.and_eq_true, Array.all_eq_true']
    have hil : i < listed.size := by omega
    refine ⟨by simp [Array.getD_eq_getD_getElem?, hil] at h1 ⊢; exact h1, fun ed hed => ?_⟩
    cases hb : Region.binds .any ed with
    | false => rfl
    | true => simpa using h2 ed.on (List.any_eq_true.2 ⟨ed, Array.mem_toList_iff.2 hed, by simp [hb]⟩)
theorem all_listed {listed : Array Bool} (hs : listed.size = ops.length) (hac : acyc ops 0 = true) (hr : Region.ready .any ops.toArray listed = []) : ∀ n i, i < n → i < ops.length → LA listed i = true := by
  intro n
  induction n with
  | zero => intro i hi; omega
  | succ n ih =>
    intro i hi his
    rcases Nat.lt_or_ge i n with h | h
    · exact ih i h his
    · obtain rfl : i = n := by omega
      cases hl : LA listed i with
      | true => rfl
      | false =>
        exfalso
        have hoi : ops[i]? = some ops[i] := List.getElem?_eq_getElem his
        have : i ∈ Region.ready .any ops.toArray listed := (mem_rdy hs).2 ⟨hl, ops[i], hoi, fun j hj => by
          have := acyc_lt ops 0 i _ hac hoi j hj
          exact ih j (by omega) (by omega)⟩
        rw [hr] at this; cases this
def unl (L : Nat → Bool) (N : Nat) : Nat := ((List.range N).filter fun i => !L i).length
theorem unl_set {L : Nat → Bool} {N i : Nat} (hi : i < N) (hl : L i = false) : unl (withL L i) N < unl L N := by
  unfold unl
  have h1 : ((List.range N).filter fun j => !(withL L i) j) = ((List.range N).filter fun j => !L j).filter (fun j => decide (j ≠ i)) := by
    rw [List.filter_filter]
    congr 1
    funext j
    by_cases hj : j = i <;> simp [hj, withL]
  rw [h1]
  have hm : i ∈ (List.range N).filter fun j => !L j := List.mem_filter.2 ⟨List.mem_range.2 hi, by rw [hl]; rfl⟩
  exact (List.length_filter_lt_length_iff_exists (p := fun j => decide (j ≠ i))).2 ⟨i, hm, by simp⟩
theorem unl_zero {listed : Array Bool} (hs : listed.size = ops.length) (hu : unl (LA listed) ops.length = 0) : Region.ready .any ops.toArray listed = [] := by
  cases hr : Region.ready .any ops.toArray listed with
  | nil => rfl
  | cons i l =>
    exfalso
    have hi : i ∈ Region.ready .any ops.toArray listed := by rw [hr]; simp
    obtain ⟨h1, o, ho, _⟩ := (mem_rdy hs).1 hi
    have his : i < ops.length := (List.getElem?_eq_some_iff.1 ho).1
    unfold unl at hu
    have : i ∈ (List.range ops.length).filter fun j => !(LA listed) j := List.mem_filter.2 ⟨List.mem_range.2 his, by rw [h1]; rfl⟩
    rw [List.eq_nil_of_length_eq_zero hu] at this
    cases this
theorem DC_set {L : Nat → Bool} (h : DC ops L) {i : Nat} {o : Oper} (ho : ops[i]? = some o) (haf : ∀ j, hasAft o.after.toList j = true → L j = true) : DC ops (withL L i) := by
  intro j oj hj hoj k hk
  by_cases hji : j = i
  · subst hji
    rw [ho] at hoj; injection hoj with hoj; subst hoj
    exact withL_of (haf k hk)
  · rw [withL_ne hji] at hj
    exact withL_of (h j oj hj hoj k hk)
/-- What is left goes in the order of the text. -/
theorem any_tail (hac : acyc ops 0 = true) {m : Nat} (hfull : Full ops m) {Q : Exit → Act → World → Prop} : ∀ (fuel k : Nat) (listed : Array Bool) (a : Act) (w : World), m ≤ k → k ≤ ops.length → listed.size = ops.length → (∀ j, LA listed j = decide (j < k)) → unl (LA listed) ops.length ≤ fuel →
    wpList Try.prog ops.toArray Q (ops.drop k) a w → wpAny Try.prog .any ops.toArray Q fuel listed a w := by
  have hDC : ∀ {k : Nat} {listed : Array Bool}, (∀ j, LA listed j = decide (j < k)) → DC ops (LA listed) := by
    intro k listed hL j o hj ho i hi
    have := acyc_lt ops 0 j o hac ho i hi
    rw [hL] at hj ⊢
    simp at hj ⊢
    omega
  have hend : ∀ (k : Nat) (listed : Array Bool) (a : Act) (w : World), k ≤ ops.length → listed.size = ops.length → (∀ j, LA listed j = decide (j < k)) → Region.ready .any ops.toArray listed = [] → wpList Try.prog ops.toArray Q (ops.drop k) a w → Q .normal a w := by
    intro k listed a w hk hs hL hr h
    have hkk : k = ops.length := by
      rcases Nat.lt_or_ge k ops.length with h1 | h1
      · have := all_listed hs hac hr (k + 1) k (by omega) h1
        rw [hL] at this; simp at this
      · omega
    subst hkk
    rw [List.drop_length] at h
    exact h
  intro fuel
  induction fuel with
  | zero =>
    intro k listed a w hm hk hs hL hu h
    have hr := unl_zero hs (by omega)
    exact ⟨hr, hend k listed a w hk hs hL hr h⟩
  | succ fuel ih =>
    intro k listed a w hm hk hs hL hu h
    refine ⟨fun hr => hend k listed a w hk hs hL hr h, fun i hi => ?_⟩
    obtain ⟨h1, o, ho, haf⟩ := (mem_rdy hs).1 hi
    have his : i < ops.length := (List.getElem?_eq_some_iff.1 ho).1
    have hki : k ≤ i := by rw [hL] at h1; simpa using h1
    have hik : i = k := by
      rcases Nat.lt_or_ge k i with h2 | h2
      · have := hfull i o (by omega) ho (LA listed) (hDC hL) haf k h2
        rw [hL] at this; simp at this
      · omega
    subst hik
    rw [List.drop_eq_getElem_cons his] at h
    have hoe : ops[i] = o := by rw [List.getElem?_eq_getElem his] at ho; exact Option.some.inj ho
    rw [hoe] at h
    unfold wpOp
    have hoa : ops.toArray[i]? = some o := by simpa using ho
    simp only [hoa]
    have hnext : ∀ a w, wpList Try.prog ops.toArray Q (ops.drop (i + 1)) a w → wpAny Try.prog .any ops.toArray Q fuel (listed.setIfInBounds i true) a w := fun a w hh =>
      ih (i + 1) _ a w (by omega) (by omega) (by simpa using hs) (fun j => by
        rw [LA_set (by omega)]
        by_cases hj : j = i
        · subst hj; simp [withL]
        · rw [withL_ne hj, hL]
          by_cases h' : j < i
          · simp [h', show j < i + 1 by omega]
          · simp [h', show ¬ j < i + 1 by omega]) (by
        have := unl_set his h1
        have e : unl (LA (listed.setIfInBounds i true)) ops.length = unl (withL (LA listed) i) ops.length := by
          congr 1; funext j; exact LA_set (by omega) j
        omega) hh
    unfold wpList at h
    split
    · rename_i hw
      rw [if_pos hw] at h
      rcases h with h | h
      · exact .inl (Oper.wp_mono hnext h)
      · exact .inr h
    · rename_i hw
      rw [if_neg hw] at h
      exact hnext _ _ h
/-- In any order. -/
theorem any_prefix (hsig : SigOK sig) (hpre : PreR σ base ops Ez az wz) (hV : VOK sig σ ops V) (hac : acyc ops 0 = true) (hfull : Full ops V.length) {Q : Exit → Act → World → Prop}
    (hc : ∀ E a w, RJ σ base ops V Ez az wz (fun j => decide (j < V.length)) E a w → wpList Try.prog ops.toArray Q (ops.drop V.length) a w) :
    ∀ (fuel : Nat) (listed : Array Bool) (E : Env) (a : Act) (w : World), listed.size = ops.length → (∀ j, LA listed j = true → j < V.length) → DC ops (LA listed) → unl (LA listed) ops.length ≤ fuel → RJ σ base ops V Ez az wz (LA listed) E a w →
      wpAny Try.prog .any ops.toArray Q fuel listed a w := by
  have hdone : ∀ (fuel : Nat) (listed : Array Bool) (E : Env) (a : Act) (w : World), listed.size = ops.length → (∀ j, LA listed j = true → j < V.length) → unl (LA listed) ops.length ≤ fuel → RJ σ base ops V Ez az wz (LA listed) E a w → (∀ j, j < V.length → LA listed j = true) →
      wpAny Try.prog .any ops.toArray Q fuel listed a w := by
    intro fuel listed E a w hs hlim hu hJ hall
    have hL : ∀ j, LA listed j = decide (j < V.length) := by
      intro j
      by_cases hj : j < V.length
      · rw [hall j hj]; simp [hj]
      · cases hl : LA listed j with
        | false => simp [hj]
        | true => exact absurd (hlim j hl) hj
    exact any_tail hac hfull fuel V.length listed a w (Nat.le_refl _) hV.1 hs hL hu (hc E a w (hJ.congr fun j => (hL j).symm))
  intro fuel
  induction fuel with
  | zero =>
    intro listed E a w hs hlim hD hu hJ
    have hr := unl_zero hs (by omega)
    exact hdone 0 listed E a w hs hlim hu hJ fun j hj => all_listed hs hac hr (j + 1) j (by omega) (by have := hV.1; omega)
  | succ fuel ih =>
    intro listed E a w hs hlim hD hu hJ
    by_cases hall : ∀ j, j < V.length → LA listed j = true
    · exact hdone (fuel + 1) listed E a w hs hlim hu hJ hall
    · refine ⟨fun hr => absurd (fun j hj => all_listed hs hac hr (j + 1) j (by omega) (by have := hV.1; omega)) hall, fun i hi => ?_⟩
      obtain ⟨h1, o, ho, haf⟩ := (mem_rdy hs).1 hi
      have his : i < ops.length := (List.getElem?_eq_some_iff.1 ho).1
      have him : i < V.length := by
        rcases Nat.lt_or_ge i V.length with h | h
        · exact h
        · exact absurd (fun j hj => hfull i o h ho (LA listed) hD haf j (by omega)) hall
      unfold wpOp
      have hoa : ops.toArray[i]? = some o := by simpa using ho
      simp only [hoa]
      have := step_ok hsig hpre hV hJ ho him h1 haf (Q := Q) (K := wpAny Try.prog .any ops.toArray Q fuel (listed.setIfInBounds i true)) (fun E' a' w' hJ' => by
        refine ih _ E' a' w' (by simpa using hs) (fun j hj => ?_) ?_ ?_ (hJ'.congr fun j => LA_set (by omega) j)
        · rw [LA_set (by omega)] at hj
          by_cases hji : j = i
          · subst hji; exact him
          · rw [withL_ne hji] at hj; exact hlim j hj
        · have e : LA (listed.setIfInBounds i true) = withL (LA listed) i := funext fun j => LA_set (by omega) j
          rw [e]; exact DC_set hD ho haf
        · have := unl_set his h1
          have e : unl (LA (listed.setIfInBounds i true)) ops.length = unl (withL (LA listed) i) ops.length := by
            congr 1; funext j; exact LA_set (by omega) j
          omega)
      split
      · rename_i hw; rw [if_pos hw] at this; exact .inl this
      · rename_i hw; rw [if_neg hw] at this; exact this
end
end Go.Proofs.Ytdpokkegkedlfaa
