/- The evaluation of code holds. -/
import Derived.Test.YtdpokkegkedlfaaAx14
namespace Go.Proofs.Ytdpokkegkedlfaa
open Go.RowKit
set_option maxRecDepth 10000
def Env.ren (E : Env) (m : Nat → Nat) : Env := ⟨fun k => E.hd (m k), E.lv, E.rr⟩
section
variable {sig : FuncId → List AV → Option Sg} {σ : St} {base : Base} {xs : XS} {N : Nat} {E : Env} {a : Act} {w : World} {Q : Exit → Act → World → Prop} {m : Nat → Nat}
theorem subS_has {v : Value} {x y : SV} (h : subS m x y) (hx : x.has E w v) : y.has (E.ren m) w v := by
  unfold subS at h
  split at h
  · trivial
  · subst h; exact hx
  · subst h; exact hx
  · exact hx
  · subst h; exact hx
  · subst h; exact hx
  · obtain ⟨rfl, rfl⟩ := h; exact hx
  · subst h; exact hx
  · subst h; exact hx
  · simp only [Bool.and_eq_true, beq_iff_eq] at h
    obtain ⟨h1, rfl⟩ := h
    subst h1
    exact hx
  · have := beq_iff_eq.1 h
    subst this
    exact hx
  · subst h; exact hx
  · exact h.elim
theorem subL_has : ∀ {vs : List Value} {x y : List SV}, subL m x y → hasL E w vs x → hasL (E.ren m) w vs y
  | [], [], [], _, _ => trivial
  | v :: vs, a :: x, b :: y, h, hx => ⟨subS_has h.1 hx.1, subL_has h.2 hx.2⟩
  | [], _ :: _, _, _, h => h.elim
  | _ :: _, [], _, _, h => h.elim
  | [], [], _ :: _, h, _ => h.elim
  | _ :: _, _ :: _, [], h, _ => h.elim
theorem subA_has {v : Value} {x y : AV} (h : subA m x y) (hx : x.has E w v) : y.has (E.ren m) w v := by
  unfold subA at h
  split at h
  · trivial
  · exact subS_has h hx
  · obtain ⟨cs, h1, h2⟩ := hx; exact ⟨cs, h1, subL_has h h2⟩
  · exact h.elim
theorem subX_ok {b : Nat} {v : Value} {x : Option Bx} {y : Bx} (h : subX m x y) : ∃ x', x = some x' ∧ (x'.ok b E w v → y.ok b (E.ren m) w v) := by
  unfold subX at h
  split at h
  · rename_i l l'
    refine ⟨_, rfl, fun hx => ?_⟩
    obtain ⟨g, cs, e, h1, h2, h3, h4⟩ := hx
    exact ⟨g, cs, e, h1, h2, h3, subL_has h h4⟩
  · rename_i e c e' c'
    obtain ⟨h1, rfl⟩ := h
    obtain rfl := beq_iff_eq.1 h1
    exact ⟨_, rfl, fun hx => hx⟩
  · subst h; exact ⟨_, rfl, fun hx => hx⟩
  · exact h.elim
theorem headT_mem (s : Nat) : ∀ (t : List (Nat × AV)) (seen : List Nat), memN s seen = false → lookT t s = .s .top ∨ (s, lookT t s) ∈ headT [] [] seen t
  | [], _, _ => .inl rfl
  | (i, a) :: l, seen, hs => by
    simp only [lookT, headT]
    by_cases hi : i = s
    · subst hi
      rw [if_pos (by simp)]
      rw [if_neg (by simp [hs, memN])]
      cases a with
      | s b => cases b <;> first | exact .inl rfl | exact .inr (List.mem_cons_self ..)
      | agg l => exact .inr (List.mem_cons_self ..)
    · rw [if_neg (by simpa using hi)]
      have hs' : memN s (i :: seen) = false := by simp [memN, hs, Ne.symm hi]
      split
      · exact headT_mem s l seen hs
      · split
        · exact headT_mem s l (i :: seen) hs'
        · rcases headT_mem s l (i :: seen) hs' with h | h
          · exact .inl h
          · exact .inr (List.mem_cons_of_mem _ h)
theorem headB_mem (s : Nat) (x : Bx) : ∀ (t : List (Nat × Bx)) (seen : List Nat), memN s seen = false → lookB t s = some x → (s, x) ∈ headB seen t
  | [], _, _, h => by cases h
  | (i, a) :: l, seen, hs, h => by
    simp only [lookB, headB] at h ⊢
    by_cases hi : i = s
    · subst hi
      rw [if_pos (by simp)] at h
      injection h with h; subst h
      rw [if_neg (by simp [hs])]
      exact List.mem_cons_self ..
    · rw [if_neg (by simpa using hi)] at h
      have hs' : memN s (i :: seen) = false := by simp [memN, hs, Ne.symm hi]
      split
      · exact headB_mem s x l seen hs h
      · exact List.mem_cons_of_mem _ (headB_mem s x l (i :: seen) hs' h)
theorem subT_mem {t : List (Nat × AV)} : ∀ {l : List (Nat × AV)}, subT m t l → ∀ q ∈ l, subA m (lookT t q.1) q.2
  | [], _, q, hq => by cases hq
  | p :: l, h, q, hq => by
    rcases List.mem_cons.1 hq with rfl | hq
    · exact h.1
    · exact subT_mem h.2 q hq
theorem subB_mem {b : List (Nat × Bx)} : ∀ {l : List (Nat × Bx)}, subB m b l → ∀ q ∈ l, subX m (lookB b (m q.1)) q.2
  | [], _, q, hq => by cases hq
  | p :: l, h, q, hq => by
    rcases List.mem_cons.1 hq with rfl | hq
    · exact h.1
    · exact subB_mem h.2 q hq
theorem idsT_mem {n : Nat} : ∀ {l : List (Nat × AV)}, idsT n l = true → ∀ q ∈ l, q.2.idsOK (fun j => Nat.blt j n) = true
  | [], _, q, hq => by cases hq
  | p :: l, h, q, hq => by
    simp only [idsT, Bool.and_eq_true] at h
    rcases List.mem_cons.1 hq with rfl | hq
    · exact h.1
    · exact idsT_mem h.2 q hq
theorem idsB_mem {n : Nat} : ∀ {l : List (Nat × Bx)}, idsB n l = true → ∀ q ∈ l, q.1 < n ∧ q.2.idsOK (fun j => Nat.blt j n) = true
  | [], _, q, hq => by cases hq
  | p :: l, h, q, hq => by
    simp only [idsB, Bool.and_eq_true] at h
    rcases List.mem_cons.1 hq with rfl | hq
    · exact ⟨blt_iff.1 h.1.1, h.1.2⟩
    · exact idsB_mem h.2 q hq
theorem injB_mem : ∀ {l : List (Nat × Bx)}, injB m l = true → ∀ q ∈ l, ∀ r ∈ l, q.1 ≠ r.1 → m q.1 ≠ m r.1
  | [], _, q, hq => by cases hq
  | p :: l, h, q, hq => by
    intro r hr hne
    simp only [injB, Bool.and_eq_true] at h
    rcases List.mem_cons.1 hq with e1 | hq1
    · subst e1
      rcases List.mem_cons.1 hr with e2 | hr1
      · subst e2; exact absurd rfl hne
      · have := List.all_eq_true.1 h.1 r hr1
        simpa using this
    · rcases List.mem_cons.1 hr with e2 | hr1
      · subst e2
        have := List.all_eq_true.1 h.1 q hq1
        exact fun e => by simp [e] at this
      · exact injB_mem h.2 q hq1 r hr1 hne
/-- What is said at a loop's head holds. -/
theorem Rel.sub {σh : St} {mp : List (Nat × Nat)} {n : Nat} (h : Rel base N σ E a w) (hs : sub σ σh mp n) (hn : σh.n = n) (hn0 : 0 < n) : Rel base N σh (E.ren (mapN mp)) a w := by
  obtain ⟨h0, h1, h2⟩ := hs
  simp only [Bool.and_eq_true] at h0
  obtain ⟨⟨⟨i1, i2⟩, i3⟩, i4, i5⟩ := h0
  have m0 : mapN mp 0 = 0 := beq_iff_eq.1 i4
  have hB : ∀ k x, lookB σh.b k = some x → (k, x) ∈ headB [] σh.b := fun k x hk => headB_mem k x σh.b [] rfl hk
  refine ⟨h.size, h.defers, h.bel, fun s => ?_, fun s k hk => ?_, fun k x hk => ?_, ⟨h.mem.lt, fun k x hk => ?_, fun k x b hk hb => ?_⟩, fun k k' x x' g hk hk' hg hg' => ?_, ⟨h.fr.big, h.fr.l0lt, fun k x b hk hb => ?_, h.fr.l0, fun hx => ?_, by rw [hn]; exact hn0⟩⟩
  · rcases headT_mem s σh.t [] rfl with e | e
    · rw [e]; trivial
    · exact subA_has (subT_mem h1 _ e) (h.slots s)
  · rcases headT_mem s σh.t [] rfl with e | e
    · rw [e] at hk; cases hk
    · rw [hn]; exact blt_iff.1 (AV.idsOK_on (idsT_mem i2 _ e) hk)
  · have := idsB_mem i3 _ (hB k x hk)
    rw [hn]
    exact this
  · obtain ⟨x', e1, e2⟩ := subX_ok (E := E) (w := w) (b := base.bn) (v := E.hd (mapN mp k)) (subB_mem h2 _ (hB k x hk))
    exact e2 (h.mem.ok _ x' e1)
  · obtain ⟨x', e1, _⟩ := subX_ok (E := E) (w := w) (b := base.bn) (v := E.hd (mapN mp k)) (subB_mem h2 _ (hB k x hk))
    exact h.mem.lv _ x' b e1 hb
  · by_cases hkk : k = k'
    · exact hkk
    · exfalso
      obtain ⟨y, e1, _⟩ := subX_ok (E := E) (w := w) (b := base.bn) (v := E.hd (mapN mp k)) (subB_mem h2 _ (hB k x hk))
      obtain ⟨y', e2, _⟩ := subX_ok (E := E) (w := w) (b := base.bn) (v := E.hd (mapN mp k')) (subB_mem h2 _ (hB k' x' hk'))
      exact injB_mem i1 _ (hB k x hk) _ (hB k' x' hk') hkk (h.dist _ _ y y' g e1 e2 hg hg')
  · obtain ⟨x', e1, _⟩ := subX_ok (E := E) (w := w) (b := base.bn) (v := E.hd (mapN mp k)) (subB_mem h2 _ (hB k x hk))
    rcases h.fr.own (mapN mp k) x' b e1 hb with h3 | ⟨h3, h4⟩
    · exact .inl h3
    · obtain ⟨⟨b0, h5⟩, _⟩ := h.fr.xid h4
      rw [h5] at i5
      have i6 : (lookB σh.b 0).isSome = true := by simpa using i5
      obtain ⟨y, hy⟩ := Option.isSome_iff_exists.1 i6
      by_cases hk0 : k = 0
      · exact .inr ⟨hk0, h4⟩
      · exact absurd (h3.trans m0.symm) (injB_mem i1 _ (hB k x hk) _ (hB 0 y hy) hk0)
  · obtain ⟨⟨b0, h5⟩, h6⟩ := h.fr.xid hx
    rw [h5] at i5
    have i6 : (lookB σh.b 0).isSome = true := by simpa using i5
    obtain ⟨y, hy⟩ := Option.isSome_iff_exists.1 i6
    exact ⟨⟨y, hy⟩, by show E.hd (mapN mp 0) = _; rw [m0]; exact h6⟩
theorem fillG_n : ∀ (l : List Vary) (g : List GV) (σ : St), (fillG σ l g).n = σ.n
  | [], _, _ => rfl
  | .v s :: l, g, σ => by
    unfold fillG
    split
    · split <;> exact fillG_n l _ _
    · split <;> exact fillG_n l _ _
    · split
      · split <;> exact fillG_n l _ _
      · exact fillG_n l _ _
    · exact fillG_n l _ _
    · exact fillG_n l _ _
  | .b s :: l, g, σ => by
    unfold fillG
    split
    · split
      · split <;> exact fillG_n l _ _
      · exact fillG_n l _ _
      · exact fillG_n l _ _
    · split <;> exact fillG_n l _ _
    · exact fillG_n l _ _
  | .f s i t :: l, g, σ => by
    unfold fillG
    split
    · split
      · split <;> exact fillG_n l _ _
      · exact fillG_n l _ _
    · exact fillG_n l _ _
theorem dstB_ok : ∀ {l : List Oper}, dstB N l = true → ∀ o ∈ l, ∀ d, o.dst = some d → d < N
  | [], _, o, ho => by cases ho
  | p :: l, h, o, ho => by
    intro d hd
    simp only [dstB, Bool.and_eq_true] at h
    rcases List.mem_cons.1 ho with rfl | ho
    · have := h.1; rw [hd] at this; exact blt_iff.1 this
    · exact dstB_ok h.2 o ho d hd
/-- A region. -/
theorem memN_mem {n : Nat} : ∀ {l : List Nat}, memN n l = true ↔ n ∈ l
  | [] => by simp [memN]
  | m :: l => by simp [memN, memN_mem (l := l)]
theorem anyStep_at {one : Nat → Oper → Prop} {done : List Nat} : ∀ (l : List Oper) (k i : Nat) (o : Oper), anyStep one done l k → l[i]? = some o → memN (k + i) done = false → readyB o done = true → one (k + i) o
  | [], _, i, o, _, ho, _, _ => by simp at ho
  | x :: l, k, i, o, h, ho, hm, hr => by
    unfold anyStep at h
    cases i with
    | zero =>
      simp only [List.getElem?_cons_zero, Option.some.injEq] at ho
      subst ho
      rw [Nat.add_zero] at hm
      rw [hm, hr] at h
      exact h.1
    | succ i =>
      have ho' : l[i]? = some o := by simpa using ho
      have e : k + (i + 1) = k + 1 + i := by omega
      rw [e] at hm ⊢
      split at h
      · exact anyStep_at l (k + 1) i o h ho' hm hr
      · exact anyStep_at l (k + 1) i o h.2 ho' hm hr
theorem evAny_ok (hsig : SigOK sig) (hxs : XSigOK xs) {ops : List Oper} {k : St → Prop} (hac : acyc ops 0 = true) (hQ : ∀ σ' E' a' w', Rel base N σ' E' a' w' → k σ' → Q .normal a' w') :
    ∀ (fuel n : Nat) (G : List (Nat × Bool)) (done : List Nat) (listed : Array Bool) (σ : St) (E : Env) (a : Act) (w : World), listed.size = ops.length → (∀ j, LA listed j = memN j done) → unl (LA listed) ops.length ≤ fuel → Rel base N σ E a w → evAny sig xs N ops n G done σ k → wpAny Try.prog .any ops.toArray Q fuel listed a w := by
  have hall : ∀ (done : List Nat) (listed : Array Bool), (∀ j, LA listed j = memN j done) → (∀ i, i < ops.length → LA listed i = true) → allD ops.length done = true := by
    intro done listed hL h
    refine List.all_eq_true.2 fun i hi => ?_
    rw [← hL]; exact h i (List.mem_range.1 hi)
  have hdone : ∀ (done : List Nat) (listed : Array Bool), listed.size = ops.length → (∀ j, LA listed j = memN j done) → allD ops.length done = true → Region.ready .any ops.toArray listed = [] := by
    intro done listed hs hL h
    refine List.eq_nil_iff_forall_not_mem.2 fun i hi => ?_
    obtain ⟨h1, o, ho, _⟩ := (mem_rdy hs).1 hi
    have := List.all_eq_true.1 h i (List.mem_range.2 (List.getElem?_eq_some_iff.1 ho).1)
    rw [← hL, h1] at this; cases this
  intro fuel
  induction fuel with
  | zero =>
    intro n G done listed σ E a w hs hL hu hR h
    have hr := unl_zero hs (by omega)
    have hA := hall done listed hL fun i hi => all_listed hs hac hr (i + 1) i (by omega) hi
    refine ⟨hr, ?_⟩
    cases n <;> (unfold evAny at h; rw [hA] at h; exact hQ σ E a w hR h)
  | succ fuel ih =>
    intro n G done listed σ E a w hs hL hu hR h
    cases hA : allD ops.length done with
    | true =>
      have hr := hdone done listed hs hL hA
      refine ⟨fun _ => ?_, fun i hi => by rw [hr] at hi; cases hi⟩
      cases n <;> (unfold evAny at h; rw [hA] at h; exact hQ σ E a w hR h)
    | false =>
      refine ⟨fun hr => ?_, fun i hi => ?_⟩
      · have := hall done listed hL fun i hi => all_listed hs hac hr (i + 1) i (by omega) hi
        rw [hA] at this; cases this
      · cases n with
        | zero => unfold evAny at h; rw [hA] at h; exact h.elim
        | succ n =>
          unfold evAny at h
          rw [hA] at h
          obtain ⟨h1, o, ho, haf⟩ := (mem_rdy hs).1 hi
          have his : i < ops.length := (List.getElem?_eq_some_iff.1 ho).1
          have hone := anyStep_at ops 0 i o h ho (by rw [Nat.zero_add, ← hL]; exact h1) (List.all_eq_true.2 fun ed hed => by
            cases hb : Region.binds .any ed with
            | false => rfl
            | true =>
              have := haf ed.on (List.any_eq_true.2 ⟨ed, hed, by simp [hb]⟩)
              rw [hL] at this; simpa using this)
          rw [Nat.zero_add] at hone
          have hoa : ops.toArray[i]? = some o := by simpa using ho
          unfold wpOp
          simp only [hoa]
          have hih : ∀ G' σ' E' a' w', Rel base N σ' E' a' w' → evAny sig xs N ops n G' (i :: done) σ' k → wpAny Try.prog .any ops.toArray Q fuel (listed.setIfInBounds i true) a' w' := (fun G' σ' E' a' w' hR' hk' => by
            refine ih n G' (i :: done) _ σ' E' a' w' (by simpa using hs) (fun j => ?_) ?_ hR' hk'
            · rw [LA_set (by omega)]
              by_cases hj : j = i
              · subst hj; simp [withL, memN]
              · rw [withL_ne hj, hL]; simp [memN, hj]
            · have := unl_set his h1
              have e : unl (LA (listed.setIfInBounds i true)) ops.length = unl (withL (LA listed) i) ops.length := by
                congr 1; funext j; exact LA_set (by omega) j
              omega)
          unfold evGd1 at hone
          split at hone
          · rename_i hg
            have hw := evOne_ok (Q := Q) (K := wpAny Try.prog .any ops.toArray Q fuel (listed.setIfInBounds i true)) hsig hxs hg hR hone (hih G)
            have hwant : Region.wanted o (yielded ops.toArray a.tmps) = true := by simp [Region.wanted, hg]
            rw [if_pos hwant]
            exact .inl hw
          · rename_i j b hg
            split at hone
            · rename_i s hs2
              split at hone
              · rename_i c hc
                have hsl : a.tmps.getD s undef = .bool c := by have := hR.slots s; rw [hc] at this; exact this
                rw [wanted_at hR hg hs2 hc]
                split at hone
                · rename_i v _
                  obtain ⟨hd, rfl, g1⟩ := hone
                  split at g1
                  · rename_i hcb
                    rw [if_pos hcb]
                    exact .inl (unguard (gd := none) (evOne_ok hsig hxs rfl hR g1 (hih G)))
                  · rename_i hcb
                    rw [if_neg (by rw [hcb]; simp)]
                    exact hih G _ E _ w (putTop_ok hR hd) g1
                obtain ⟨hd, g1, g2⟩ := hone
                by_cases hcb : c = b
                · rw [if_pos (by simpa using hcb)]
                  exact .inl (unguard (gd := none) (evOne_ok hsig hxs rfl (hR.know (av := .s (.bool b)) (by rw [← hcb]; exact hsl) (fun k hk => by cases hk)) (g1 hcb) (hih _)))
                · rw [if_neg (by simpa using hcb)]
                  exact hih _ _ E _ w (putTop_ok (hR.know (av := .s (.bool (!b))) (by rw [show (!b) = c by cases c <;> cases b <;> simp_all]; exact hsl) (fun k hk => by cases hk)) hd) (g2 (by cases c <;> cases b <;> simp_all))
              · exact hone.elim
            · exact hone.elim
section
variable {pre : List Oper} {js : List Nat} {fx : Oper → Bool}
theorem anyStep_mono {f g : Nat → Oper → Prop} {done : List Nat} (hfg : ∀ i o, f i o → g i o) : ∀ (l : List Oper) (i : Nat), anyStep f done l i → anyStep g done l i
  | [], _, _ => trivial
  | o :: l, i, h => by
    unfold anyStep at h ⊢
    split at h
    · exact anyStep_mono hfg l (i + 1) h
    · exact ⟨hfg i o h.1, anyStep_mono hfg l (i + 1) h.2⟩
theorem evAnyX_inv {k : St → Prop} (hk : Inv k) : ∀ (n : Nat) (done : List Nat), Inv fun σ => evAnyX sig xs N pre js n done σ k
  | 0, done, σ, σ', he, h => by
    unfold evAnyX at h ⊢
    split at h
    · exact hk _ _ he h
    · exact h
  | n + 1, done, σ, σ', he, h => by
    unfold evAnyX at h ⊢
    split at h
    · exact hk _ _ he h
    · exact anyStep_mono (fun i o hh => ev1L_eqv (evAnyX_inv hk n (i :: done)) he hh) _ _ h
theorem backL {i : Nat} {oi : Oper} {K : St → Prop} (hK : Inv K) (hdi : ∀ d, oi.dst = some d → dIdx pre d = some i) (hx : argsA pre oi.after.toList oi.op = true) :
    ∀ (C : List Nat) (σ : St), (∀ a ∈ C, ∃ oa, pre[a]? = some oa ∧ fx oa = false ∧ (∀ d, oa.dst = some d → dIdx pre d = some a) ∧ a ≠ i ∧ hasAft oi.after.toList a = false ∧ hasAft oa.after.toList i = false) →
      (evLin sig xs N pre js fx C σ fun s => ev1L sig xs N pre js true oi s K) → ev1L sig xs N pre js true oi σ fun s => evLin sig xs N pre js fx C s K
  | [], σ, _, h => h
  | a :: C, σ, hA, h => by
    obtain ⟨oa, e1, e2, e3, e4, e5, e6⟩ := hA a (List.mem_cons_self ..)
    unfold evLin at h
    rw [e1] at h
    simp only at h
    have h' := ev1L_mono (fun s hs => backL hK hdi hx C s (fun b hb => hA b (List.mem_cons_of_mem _ hb)) hs) h
    rw [e2] at h'
    have h'' := swapL (evLin_inv hK C) e3 hdi e4 e5 e6 (fun _ => hx) h'
    refine ev1L_mono (fun s hs => ?_) h''
    show evLin sig xs N pre js fx (a :: C) s K
    unfold evLin
    rw [e1]
    simp only
    rw [e2]
    exact hs
theorem okFx_at {c : List Nat} : ∀ (l : List Oper) (i j : Nat) (o : Oper), okFx pre fx c l i = true → l[j]? = some o → okFx1 pre fx c o (i + j) = true
  | [], _, _, _, _, h => by simp at h
  | q :: l, i, 0, o, h, hj => by
    simp only [okFx, Bool.and_eq_true] at h
    simp only [List.getElem?_cons_zero, Option.some.injEq] at hj
    subst hj; exact h.1
  | q :: l, i, j + 1, o, h, hj => by
    simp only [okFx, Bool.and_eq_true] at h
    have := okFx_at l (i + 1) j o h.2 (by simpa using hj)
    rwa [Nat.add_right_comm, Nat.add_assoc] at this
theorem evAnyX_all {k : St → Prop} {n : Nat} {dn : List Nat} {σ : St} (h : evAnyX sig xs N pre js n dn σ k) (ha : allD pre.length dn = true) : k σ := by
  cases n <;> (unfold evAnyX at h; rw [ha] at h; exact h)
theorem pf_any (hsig : SigOK sig) (hxs : XSigOK xs) {ops : List Oper} (hac : acyc ops 0 = true) {c : List Nat} (hc0 : okLin fx [] ops [] c = true) (hfx : okFx ops fx c ops 0 = true) {k : St → Prop} (hki : Inv k) (hQ : ∀ σ' E' a' w', Rel base N σ' E' a' w' → k σ' → Q .normal a' w') :
    ∀ (fuel n : Nat) (dn : List Nat) (listed : Array Bool) (σ : St) (E : Env) (a : Act) (w : World), listed.size = ops.length → (∀ j, memN j dn = (LA listed j || memN j c)) → unl (LA listed) ops.length ≤ fuel → Rel base N σ E a w →
      (evLin sig xs N ops js fx (c.filter fun i => !LA listed i) σ fun s => evAnyX sig xs N ops js n dn s k) → wpAny Try.prog .any ops.toArray Q fuel listed a w := by
  have open1 : ∀ (P' S' : List Nat) (b : Nat), c = P' ++ b :: S' → ∃ ob, ops[b]? = some ob ∧ b ∉ P' ∧ (∀ l, hasAft ob.after.toList l = true → l ∈ P') ∧ (∀ d, ob.dst = some d → dIdx ops d = some b) ∧ fx ob = false := by
    intro P' S' b he
    rw [he] at hc0
    have q := okLin_at P' S' [] b hc0
    unfold okLin1 at q
    simp only [Bool.and_eq_true] at q
    obtain ⟨q1, q2⟩ := q
    split at q2
    · rename_i ob hob
      simp only [Bool.and_eq_true] at q2
      obtain ⟨⟨⟨q2, q3⟩, q4⟩, q5⟩ := q2
      have hff : fx ob = false := by
        have := okFx_at ops 0 b ob hfx hob
        unfold okFx1 at this
        cases hf : fx ob with
        | false => rfl
        | true =>
          rw [hf] at this
          simp only [Nat.zero_add, Bool.and_eq_true] at this
          have h2 : memN b c = true := memN_iff.2 (by rw [he]; simp)
          rw [h2] at this; simp at this
      refine ⟨ob, hob, fun hb => ?_, fun l hl => ?_, fun d hd => ?_, hff⟩
      · have : memN b (P'.reverse ++ []) = true := memN_iff.2 (by simpa using hb)
        rw [this] at q1; cases q1
      · have := readyB_iff.1 q2 l hl
        simpa using this
      · rw [hd] at q3
        simpa using q3
    · cases q2
  have hnil : ∀ listed : Array Bool, (∀ i, i < ops.length → LA listed i = true) → (c.filter fun i => !LA listed i) = [] := by
    intro listed hA
    refine List.filter_eq_nil_iff.2 fun i hi => ?_
    obtain ⟨P, S, he⟩ := List.append_of_mem hi
    obtain ⟨ob, h1, _⟩ := open1 P S i he
    rw [hA i (List.getElem?_eq_some_iff.1 h1).1]; simp
  have hall : ∀ (dn : List Nat) (listed : Array Bool), (∀ j, memN j dn = (LA listed j || memN j c)) → (∀ i, i < ops.length → LA listed i = true) → allD ops.length dn = true := by
    intro dn listed hL h
    refine List.all_eq_true.2 fun i hi => ?_
    rw [hL, h i (List.mem_range.1 hi)]; rfl
  intro fuel
  induction fuel with
  | zero =>
    intro n dn listed σ E a w hs hL hu hR h
    have hr := unl_zero hs (by omega)
    have hA : ∀ i, i < ops.length → LA listed i = true := fun i hi => all_listed hs hac hr (i + 1) i (by omega) hi
    rw [hnil listed hA] at h
    exact ⟨hr, hQ σ E a w hR (evAnyX_all h (hall dn listed hL hA))⟩
  | succ fuel ih =>
    intro n dn listed σ E a w hs hL hu hR h
    by_cases hA : ∀ i, i < ops.length → LA listed i = true
    · have hr : Region.ready .any ops.toArray listed = [] := by
        refine List.eq_nil_iff_forall_not_mem.2 fun i hi => ?_
        obtain ⟨h1, o, ho, _⟩ := (mem_rdy hs).1 hi
        rw [hA i (List.getElem?_eq_some_iff.1 ho).1] at h1; cases h1
      rw [hnil listed hA] at h
      exact ⟨fun _ => hQ σ E a w hR (evAnyX_all h (hall dn listed hL hA)), fun i hi => by rw [hr] at hi; cases hi⟩
    · refine ⟨fun hr => absurd (fun i hi => all_listed hs hac hr (i + 1) i (by omega) hi) hA, fun i hi => ?_⟩
      obtain ⟨h1, o, ho, haf⟩ := (mem_rdy hs).1 hi
      have his : i < ops.length := (List.getElem?_eq_some_iff.1 ho).1
      have hunl : unl (LA (listed.setIfInBounds i true)) ops.length ≤ fuel := by
        have := unl_set his h1
        have e : unl (LA (listed.setIfInBounds i true)) ops.length = unl (withL (LA listed) i) ops.length := by
          congr 1; funext l; exact LA_set (by omega) l
        omega
      have hLA : ∀ l, LA (listed.setIfInBounds i true) l = withL (LA listed) i l := fun l => LA_set (by omega) l
      have hoa : ops.toArray[i]? = some o := by simpa using ho
      unfold wpOp
      simp only [hoa]
      cases hic : memN i c with
      | true =>
        obtain ⟨P, S, hPS⟩ := List.append_of_mem (memN_iff.1 hic)
        obtain ⟨oi, r1, r2, r3, r4, r5⟩ := open1 P S i hPS
        rw [ho] at r1; injection r1 with r1; subst r1
        have hiP : ∀ l ∈ P, l ≠ i := fun l hl e => r2 (e ▸ hl)
        have hiS : ∀ l ∈ S, l ≠ i := by
          intro l hl e
          subst e
          obtain ⟨S1, S2, rfl⟩ := List.append_of_mem hl
          obtain ⟨ob, _, t2, _⟩ := open1 (P ++ l :: S1) S2 l (by rw [hPS]; simp)
          exact t2 (by simp)
        have hsplit : (c.filter fun l => !LA listed l) = (P.filter fun l => !LA listed l) ++ i :: (S.filter fun l => !LA listed l) := by
          rw [hPS, List.filter_append, List.filter_cons, if_pos (by simp [h1])]
        rw [hsplit] at h
        have hfront := frontL ho (evAnyX_inv hki n dn) r4 (fun hf => by rw [r5] at hf; cases hf) (P.filter fun l => !LA listed l) (S.filter fun l => !LA listed l) σ (fun b hb => by
          obtain ⟨hb1, hb2⟩ := List.mem_filter.1 hb
          have hbl : LA listed b = false := by simpa using hb2
          obtain ⟨P1, P2, hP⟩ := List.append_of_mem hb1
          obtain ⟨ob, t1, t2, t3, t4, t5⟩ := open1 P1 (P2 ++ i :: S) b (by rw [hPS, hP]; simp)
          refine ⟨ob, t1, t5, t4, hiP b hb1, ?_, ?_⟩
          · cases hh : hasAft o.after.toList b with
            | false => rfl
            | true => rw [haf b hh] at hbl; cases hbl
          · cases hh : hasAft ob.after.toList i with
            | false => rfl
            | true => exact absurd (by rw [hP]; exact List.mem_append_left _ (t3 i hh)) r2) h
        obtain ⟨hg, hw⟩ := ev1L_ok (Q := Q) (K := wpAny Try.prog .any ops.toArray Q fuel (listed.setIfInBounds i true)) hsig hxs hR hfront (fun σ' E' a' w' hR' hk' => by
          refine ih n dn _ σ' E' a' w' (by simpa using hs) (fun j => ?_) hunl hR' ?_
          · rw [hL, hLA]
            by_cases hj : j = i
            · subst hj; simp [withL, hic]
            · rw [withL_ne hj]
          · have e : (c.filter fun l => !LA (listed.setIfInBounds i true) l) = (P.filter fun l => !LA listed l) ++ (S.filter fun l => !LA listed l) := by
              rw [hPS, List.filter_append, List.filter_cons, if_neg (by rw [hLA]; simp [withL])]
              congr 1
              · exact List.filter_congr fun l hl => by rw [hLA, withL_ne (hiP l hl)]
              · exact List.filter_congr fun l hl => by rw [hLA, withL_ne (hiS l hl)]
            rw [e]
            exact hk')
        have hwant : Region.wanted o (yielded ops.toArray a.tmps) = true := by simp [Region.wanted, hg]
        rw [if_pos hwant]
        exact .inl hw
      | false =>
        have hfi := okFx_at ops 0 i o hfx ho
        unfold okFx1 at hfi
        cases hf : fx o with
        | false => rw [hf] at hfi; simp only [Nat.zero_add] at hfi; rw [hic] at hfi; cases hfi
        | true =>
          rw [hf] at hfi
          simp only [Nat.zero_add, Bool.and_eq_true] at hfi
          obtain ⟨⟨-, a1⟩, a2⟩ := hfi
          have hdi : ∀ d, o.dst = some d → dIdx ops d = some i := fun d hd => by rw [hd] at a2; simpa using a2
          have hidn : memN i dn = false := by rw [hL, h1, hic]; rfl
          have hnall : allD ops.length dn = false := by
            cases ha : allD ops.length dn with
            | false => rfl
            | true =>
              have := List.all_eq_true.1 ha i (List.mem_range.2 his)
              rw [hidn] at this; cases this
          have hC : ∀ b ∈ (c.filter fun l => !LA listed l), ∃ ob, ops[b]? = some ob ∧ fx ob = false ∧ (∀ d, ob.dst = some d → dIdx ops d = some b) ∧ b ≠ i ∧ hasAft o.after.toList b = false ∧ hasAft ob.after.toList i = false := by
            intro b hb
            obtain ⟨hb1, hb2⟩ := List.mem_filter.1 hb
            have hbl : LA listed b = false := by simpa using hb2
            obtain ⟨P1, P2, hP⟩ := List.append_of_mem hb1
            obtain ⟨ob, t1, t2, t3, t4, t5⟩ := open1 P1 P2 b hP
            have hni : i ∉ c := fun hh => by rw [memN_iff.2 hh] at hic; cases hic
            refine ⟨ob, t1, t5, t4, fun e => hni (e ▸ hb1), ?_, ?_⟩
            · cases hh : hasAft o.after.toList b with
              | false => rfl
              | true => rw [haf b hh] at hbl; cases hbl
            · cases hh : hasAft ob.after.toList i with
              | false => rfl
              | true => exact absurd (by rw [hP]; exact List.mem_append_left _ (t3 i hh)) hni
          cases n with
          | zero =>
            have hbad : ∀ (C : List Nat) (s : St), (evLin sig xs N ops js fx C s fun s => evAnyX sig xs N ops js 0 dn s k) → evLin sig xs N ops js fx C s fun s => ev1L sig xs N ops js true o s (fun s => evAnyX sig xs N ops js 0 (i :: dn) s k) := fun C s hh =>
              evLin_mono (fun s' hs' => by unfold evAnyX at hs'; rw [hnall] at hs'; exact hs'.elim) C s hh
            have hb := backL (evAnyX_inv hki 0 (i :: dn)) hdi a1 _ σ hC (hbad _ σ h)
            obtain ⟨hg, hw⟩ := ev1L_ok (Q := Q) (K := wpAny Try.prog .any ops.toArray Q fuel (listed.setIfInBounds i true)) hsig hxs hR hb (fun σ' E' a' w' hR' hk' => by
              refine ih 0 (i :: dn) _ σ' E' a' w' (by simpa using hs) (fun j => ?_) hunl hR' ?_
              · rw [hLA]
                by_cases hj : j = i
                · subst hj; simp [withL, memN]
                · rw [withL_ne hj]; simp [memN, hj, hL]
              · have e : (c.filter fun l => !LA (listed.setIfInBounds i true) l) = (c.filter fun l => !LA listed l) :=
                  List.filter_congr fun l hl => by rw [hLA, withL_ne (fun e => by subst e; rw [memN_iff.2 hl] at hic; cases hic)]
                rw [e]; exact hk')
            have hwant : Region.wanted o (yielded ops.toArray a.tmps) = true := by simp [Region.wanted, hg]
            rw [if_pos hwant]
            exact .inl hw
          | succ n =>
            have hstep : ∀ (C : List Nat) (s : St), (evLin sig xs N ops js fx C s fun s => evAnyX sig xs N ops js (n + 1) dn s k) → evLin sig xs N ops js fx C s fun s => ev1L sig xs N ops js true o s (fun s => evAnyX sig xs N ops js n (i :: dn) s k) := fun C s hh =>
              evLin_mono (fun s' hs' => by
                unfold evAnyX at hs'
                rw [hnall] at hs'
                have hone := anyStep_at ops 0 i o hs' ho (by rw [Nat.zero_add]; exact hidn) (List.all_eq_true.2 fun ed hed => by
                  cases hb : Region.binds .any ed with
                  | false => rfl
                  | true =>
                    have := haf ed.on (List.any_eq_true.2 ⟨ed, hed, by simp [hb]⟩)
                    have h2 : memN ed.on dn = true := by rw [hL, this]; rfl
                    simpa using h2)
                rw [Nat.zero_add] at hone
                exact hone) C s hh
            have hb := backL (evAnyX_inv hki n (i :: dn)) hdi a1 _ σ hC (hstep _ σ h)
            obtain ⟨hg, hw⟩ := ev1L_ok (Q := Q) (K := wpAny Try.prog .any ops.toArray Q fuel (listed.setIfInBounds i true)) hsig hxs hR hb (fun σ' E' a' w' hR' hk' => by
              refine ih n (i :: dn) _ σ' E' a' w' (by simpa using hs) (fun j => ?_) hunl hR' ?_
              · rw [hLA]
                by_cases hj : j = i
                · subst hj; simp [withL, memN]
                · rw [withL_ne hj]; simp [memN, hj, hL]
              · have e : (c.filter fun l => !LA (listed.setIfInBounds i true) l) = (c.filter fun l => !LA listed l) :=
                  List.filter_congr fun l hl => by rw [hLA, withL_ne (fun e => by subst e; rw [memN_iff.2 hl] at hic; cases hic)]
                rw [e]; exact hk')
            have hwant : Region.wanted o (yielded ops.toArray a.tmps) = true := by simp [Region.wanted, hg]
            rw [if_pos hwant]
            exact .inl hw
theorem evPF_ok (hsig : SigOK sig) (hxs : XSigOK xs) {ops : List Oper} {k : St → Prop} (h : Rel base N σ E a w) (hk : evPF sig xs N ops σ k) (hQ : ∀ σ' E' a' w', Rel base N σ' E' a' w' → k σ' → Q .normal a' w') :
    wpAny Try.prog .any ops.toArray Q ops.length (Array.replicate ops.length false) a w := by
  unfold evPF evPF2 evPF3 at hk
  obtain ⟨hb, hk⟩ := hk
  simp only [Bool.and_eq_true] at hb
  obtain ⟨⟨b1, b2⟩, b3⟩ := hb
  have hla : ∀ i, LA (Array.replicate ops.length false) i = false := fun i => by
    simp [LA, Array.getD_eq_getD_getElem?, Array.getElem?_replicate]
    split <;> rfl
  refine pf_any (js := σ.n :: jsX σ ops ops) (k := fun s => ∃ s', Eqv s' s ∧ k s') hsig hxs b1 b2 b3 (fun s s' he ⟨s0, h0, h1⟩ => ⟨s0, h0.trans he, h1⟩) (fun σ' E' a' w' hR ⟨s0, h0, h1⟩ => hQ s0 E' a' w' (hR.eqv h0.symm) h1) ops.length ops.length _ _ σ E a w (by simp) (fun j => by rw [hla]; rfl) ?_ h ?_
  · unfold unl
    exact Nat.le_trans (List.length_filter_le _ _) (by simp)
  · have e : (pureI (fxX σ ops) ops 0).filter (fun i => !LA (Array.replicate ops.length false) i) = pureI (fxX σ ops) ops 0 := List.filter_eq_self.2 fun i _ => by simp [hla]
    rw [e]
    have mono : ∀ (n : Nat) (dn : List Nat) (s : St), evAnyX sig xs N ops (σ.n :: jsX σ ops ops) n dn s k → evAnyX sig xs N ops (σ.n :: jsX σ ops ops) n dn s (fun s => ∃ s', Eqv s' s ∧ k s') := by
      intro n
      induction n with
      | zero =>
        intro dn s hs
        unfold evAnyX at hs ⊢
        split at hs
        · exact ⟨s, Eqv.refl s, hs⟩
        · exact hs
      | succ n ih =>
        intro dn s hs
        unfold evAnyX at hs ⊢
        split at hs
        · exact ⟨s, Eqv.refl s, hs⟩
        · exact anyStep_mono (fun i o hh => ev1L_mono (fun s' hs' => ih (i :: dn) s' hs') hh) _ _ hs
    exact evLin_mono (fun s hs => mono _ _ s hs) _ σ hk
end
theorem evLinR_ok (hsig : SigOK sig) (hxs : XSigOK xs) {ops : List Oper} {k : St → Prop} (h : Rel base N σ E a w) (hk : evLinR sig xs N ops σ k) (hQ : ∀ σ' E' a' w', Rel base N σ' E' a' w' → k σ' → Q .normal a' w') :
    wpAny Try.prog .any ops.toArray Q ops.length (Array.replicate ops.length false) a w := by
  unfold evLinR at hk
  split at hk
  · exact evLinA_ok hsig hxs h hk hQ
  · rename_i i0 hi0
    unfold evLinQ evLinQ2 evLinQ3 at hk
    generalize cutM (entW ops []) i0 = m at hk
    obtain ⟨hb, hk⟩ := hk
    simp only [Bool.and_eq_true] at hb
    obtain ⟨⟨⟨⟨b1, b2⟩, b3⟩, b4⟩, b5⟩ := hb
    have hle : m ≤ ops.length := Nat.le_of_ble_eq_true b2
    obtain ⟨hW, hWl⟩ := entW_sem (ops := ops) ops [] (by simp) (by simp) (fun j e o hj => by simp at hj)
    have hla : ∀ i, LA (Array.replicate ops.length false) i = false := fun i => by
      simp [LA, Array.getD_eq_getD_getElem?, Array.getElem?_replicate]
      split <;> rfl
    refine lin_any (js := σ.n :: jsX σ (List.take m ops) (List.take m ops)) (k := fun s => ∃ s', Eqv s' s ∧ evAny sig xs N ops ops.length [] (List.range m) s' k) hsig hxs b1 hle rfl (cover_ok hW hWl b3) b4 b5 hW hWl (fun s s' he ⟨s0, h0, h1⟩ => ⟨s0, h0.trans he, h1⟩) (fun fuel listed σ' E' a' w' hs hL hu hR ⟨s0, h0, h1⟩ => ?_) ops.length _ σ E a w (by simp) (fun i hi => by rw [hla] at hi; cases hi) (fun i o hi => by rw [hla] at hi; cases hi) ?_ h ?_
    · refine evAny_ok hsig hxs b1 hQ fuel ops.length [] (List.range m) listed s0 E' a' w' hs (fun j => ?_) hu (hR.eqv h0.symm) h1
      rw [hL, Bool.eq_iff_iff]
      simp [memN_iff]
    · unfold unl
      exact Nat.le_trans (List.length_filter_le _ _) (by simp)
    · have e : (linO (fxX σ (List.take m ops)) (List.take m ops) m []).filter (fun i => !LA (Array.replicate ops.length false) i) = linO (fxX σ (List.take m ops)) (List.take m ops) m [] :=
        List.filter_eq_self.2 fun i _ => by simp [hla]
      rw [e]
      exact evLin_mono (fun s hs => ⟨s, Eqv.refl s, hs⟩) _ σ hk
theorem pRun_all {l : List Oper} (m : Nat) (hp : (pRun sig σ l (l.take m) 0 []).1) : (pRun sig σ l (l.take m) 0 []).2.1.length ≤ l.length ∧ VOK sig σ l (pRun sig σ l (l.take m) 0 []).2.1 := by
  obtain ⟨more, h1, h2, h3, h4⟩ := pRun_spec (sig := sig) (σ := σ) (ops := l) (l.take m) [] hp
  simp only [List.length_nil, List.nil_append, Nat.zero_add] at h1 h2 h3 h4
  rw [h1]
  have hle : more.length ≤ l.length := by simp at h3; omega
  refine ⟨hle, hle, fun k o hk ho => h4 k o hk ?_⟩
  rw [List.getElem?_take, if_pos (by simp at h3; omega)]
  exact ho
theorem pRunC_spec {l : List Oper} (hp : (pRunC sig σ l).1) : (pRunC sig σ l).2.2 = l.drop (pRunC sig σ l).2.1.length ∧ (pRunC sig σ l).2.1.length ≤ l.length ∧ VOK sig σ l (pRunC sig σ l).2.1 := by
  have hm : ∀ m, (pRunM sig σ l m).1 → (pRunM sig σ l m).2.2 = l.drop (pRunM sig σ l m).2.1.length ∧ (pRunM sig σ l m).2.1.length ≤ l.length ∧ VOK sig σ l (pRunM sig σ l m).2.1 := by
    intro m h
    have := pRun_all (sig := sig) (σ := σ) (l := l) m h
    exact ⟨rfl, this.1, this.2⟩
  have h0 : (pRun sig σ l l 0 []).1 → (pRun sig σ l l 0 []).2.2 = l.drop (pRun sig σ l l 0 []).2.1.length ∧ (pRun sig σ l l 0 []).2.1.length ≤ l.length ∧ VOK sig σ l (pRun sig σ l l 0 []).2.1 := by
    intro h
    obtain ⟨more, h1, h2, h3, h4⟩ := pRun_spec (sig := sig) (σ := σ) (ops := l) l [] h
    simp only [List.length_nil, List.nil_append, Nat.zero_add] at h1 h2 h3 h4
    rw [h1]
    exact ⟨h2, h3, h3, fun k o hk ho => h4 k o hk ho⟩
  unfold pRunC at hp ⊢
  generalize pRun sig σ l l 0 [] = r at *
  obtain ⟨p, V, rest⟩ := r
  cases rest with
  | nil => exact h0 hp
  | cons o rest =>
    simp only at hp ⊢
    split at hp
    · exact hm _ hp
    · exact h0 hp
def lz1 (N : Nat) (ops : List Oper) (m : Nat × Nat × Nat) : Prop :=
  (∃ o, ops[m.1]? = some o ∧ o.guard = none ∧ o.dst = some m.2.1 ∧ o.op = .move (.tmp m.2.2) ∧ o.after.toList = []) ∧ m.2.1 < N ∧ apB m.1 m.2.1 m.2.2 ops 0 = true
def setM : List (Nat × Nat × Nat) → Array Bool → Array Bool
  | [], L => L
  | (i, _, _) :: M, L => setM M (L.setIfInBounds i true)
theorem setM_size : ∀ (M : List (Nat × Nat × Nat)) (L : Array Bool), (setM M L).size = L.size
  | [], _ => rfl
  | (i, d, t) :: M, L => by unfold setM; rw [setM_size M]; simp
theorem setM_LA : ∀ (M : List (Nat × Nat × Nat)) (L : Array Bool) {j : Nat}, (∀ m ∈ M, m.1 < L.size) → LA (setM M L) j = (memN j (idxM M) || LA L j)
  | [], L, j, _ => rfl
  | (i, d, t) :: M, L, j, h => by
    unfold setM idxM
    rw [setM_LA M _ (fun m hm => by simpa using h m (List.mem_cons_of_mem _ hm)), LA_set (h (i, d, t) (List.mem_cons_self ..))]
    by_cases hj : j = i
    · subst hj; simp [withL, memN]
    · have hji : (j == i) = false := by simpa using hj
      rw [withL_ne hj]; simp [memN, hji]
theorem noSel_at : ∀ {l : List Oper} {j : Nat} {o : Oper} {cs b}, noSel l = true → l[j]? = some o → o.op ≠ .select cs b
  | [], _, _, _, _, _, h => by simp at h
  | q :: l, 0, o, cs, b, h, hj => by
    simp only [noSel, Bool.and_eq_true] at h
    simp only [List.getElem?_cons_zero, Option.some.injEq] at hj
    subst hj
    intro he
    rw [he] at h
    exact absurd h.1 (by simp)
  | q :: l, j + 1, o, cs, b, h, hj => by
    simp only [noSel, Bool.and_eq_true] at h
    exact noSel_at h.2 (by simpa using hj)
theorem apB_at {i d t : Nat} : ∀ (l : List Oper) (k j : Nat) (o : Oper), apB i d t l k = true → l[j]? = some o → k + j = i ∨ hasAft o.after.toList i = true ∨ (o.guard = none ∧ (∀ s, Operand.tmp s ∈ o.op.operands.toList → s ≠ d) ∧ ∀ e, o.dst = some e → e ≠ d ∧ e ≠ t)
  | [], _, _, _, _, h => by simp at h
  | q :: l, k, 0, o, h, hj => by
    simp only [apB, Bool.and_eq_true, Bool.or_eq_true] at h
    simp only [List.getElem?_cons_zero, Option.some.injEq] at hj
    subst hj
    rcases h.1 with (h1 | h1) | ⟨h1, h2⟩
    · exact .inl (by simpa using h1)
    · exact .inr (.inl h1)
    · refine .inr (.inr ⟨?_, fun s hs => ?_, fun e he => ?_⟩)
      · unfold apB.lkB at h1
        split at h1
        · cases h1
        · assumption
      · unfold apB.lkB at h1
        split at h1
        · cases h1
        · have := List.all_eq_true.1 h1 _ hs
          simpa using this
      · rw [he] at h2
        simpa using h2
  | q :: l, k, j + 1, o, h, hj => by
    simp only [apB, Bool.and_eq_true] at h
    have := apB_at l (k + 1) j o h.2 (by simpa using hj)
    rw [show k + (j + 1) = k + 1 + j by omega]
    exact this
theorem lzOf_ok {ops : List Oper} : ∀ (l : List Oper) (k : Nat), (∀ j o, l[j]? = some o → ops[k + j]? = some o) → ∀ m ∈ lzOf N ops l k, lz1 N ops m ∧ k ≤ m.1
  | [], _, _, m, hm => by cases hm
  | q :: l, k, h, m, hm => by
    have hrec : ∀ m ∈ lzOf N ops l (k + 1), lz1 N ops m ∧ k ≤ m.1 := fun m hm => by
      have := lzOf_ok l (k + 1) (fun j o hj => by rw [show k + 1 + j = k + (j + 1) by omega]; exact h (j + 1) o (by simpa using hj)) m hm
      exact ⟨this.1, by omega⟩
    unfold lzOf at hm
    split at hm
    · exact hrec m hm
    · rename_i hg
      split at hm
      · exact hrec m hm
      · rename_i d hd
        split at hm
        · rename_i t ho
          split at hm
          · rename_i haf
            split at hm
            · rename_i hb
              simp only [Bool.and_eq_true] at hb
              rcases List.mem_cons.1 hm with rfl | hm
              · exact ⟨⟨⟨q, by simpa using h 0 q (by simp), hg, hd, ho, haf⟩, blt_iff.1 hb.1, hb.2⟩, Nat.le_refl _⟩
              · exact hrec m hm
            · exact hrec m hm
          · exact hrec m hm
        · exact hrec m hm
theorem lzOf_ge {ops : List Oper} : ∀ (l : List Oper) (k : Nat), ∀ m ∈ lzOf N ops l k, k ≤ m.1
  | [], _, m, hm => by cases hm
  | q :: l, k, m, hm => by
    have hrec : ∀ m ∈ lzOf N ops l (k + 1), k ≤ m.1 := fun m hm => by have := lzOf_ge l (k + 1) m hm; omega
    unfold lzOf at hm
    repeat' split at hm
    all_goals first
      | exact hrec m hm
      | (rcases List.mem_cons.1 hm with rfl | hm
         · exact Nat.le_refl _
         · exact hrec m hm)
theorem lzOf_sorted {ops : List Oper} : ∀ (l : List Oper) (k : Nat), (lzOf N ops l k).Pairwise fun a b => a.1 ≠ b.1
  | [], _ => List.Pairwise.nil
  | q :: l, k => by
    have hrec := lzOf_sorted (ops := ops) l (k + 1)
    have hge := lzOf_ge (N := N) (ops := ops) l (k + 1)
    unfold lzOf
    repeat' split
    all_goals first
      | exact hrec
      | exact List.Pairwise.cons (fun b hb => by have := hge b hb; show k ≠ b.1; omega) hrec
theorem lz_any {ops : List Oper} (hsel : noSel ops = true) (hQ : ∀ c a w, ¬ Q (.panic c) a w) : ∀ (M : List (Nat × Nat × Nat)) (F : Nat) (L : Array Bool) (σ : St) (a : Act), L.size = ops.length → (∀ m ∈ M, lz1 N ops m) → M.Pairwise (fun a b => a.1 ≠ b.1) → (∀ m ∈ M, LA L m.1 = false) → unl (LA L) ops.length ≤ F → Rel base N σ E a w →
    (∀ F' a', unl (LA (setM M L)) ops.length ≤ F' → Rel base N (putM M σ) E a' w → wpAny Try.prog .any ops.toArray Q F' (setM M L) a' w) → wpAny Try.prog .any ops.toArray Q F L a w
  | [], F, L, σ, a, hs, _, _, _, hu, hR, hK => hK F a hu hR
  | (i, d, t) :: M, F, L, σ, a, hs, hM, hP, hl, hu, hR, hK => by
    obtain ⟨⟨o, ho, hg, hd, hop, haf⟩, hdN, hap⟩ := hM (i, d, t) (List.mem_cons_self ..)
    have hli := hl (i, d, t) (List.mem_cons_self ..)
    have his : i < ops.length := (List.getElem?_eq_some_iff.1 ho).1
    have hun := unl_set his hli
    have e : unl (LA (L.setIfInBounds i true)) ops.length = unl (withL (LA L) i) ops.length := by
      congr 1; funext j; exact LA_set (by omega) j
    obtain ⟨F, rfl⟩ : ∃ F', F = F' + 1 := ⟨F - 1, by omega⟩
    have hoa : ops.toArray[i]? = some o := by simpa using ho
    refine wpAny_first (v := a.tmps.getD t undef) hoa (fun j o' cs b hj => noSel_at hsel (by simpa using hj)) (fun c a w h => absurd h (hQ c _ w)) F L a w (fun j oj hj hji hlj haj => ?_) ((mem_rdy hs).2 ⟨hli, o, ho, fun j hj => by rw [haf] at hj; cases hj⟩) (.inl ⟨by simp [Region.wanted, hg], fun w' => by rw [show execOp a.eval o = _ from by unfold execOp; rw [hop]]; rfl⟩) ?_
    · have hq := apB_at ops 0 j oj hap (by simpa using hj)
      rcases hq with hq | hq | ⟨h1, h2, h3⟩
      · exact absurd (by omega) hji
      · obtain ⟨ed, he1, he2⟩ := List.any_eq_true.1 hq
        simp only [Bool.and_eq_true, beq_iff_eq] at he2
        exact absurd he2.1 (haj ed (by simpa using he1) he2.2)
      · unfold Oper.apart
        rw [hd]
        have k1 : d ∉ oj.looksAt ops.toArray := by
          unfold Oper.looksAt
          rw [h1]
          simp only [List.append_nil]
          intro hmem
          obtain ⟨x, hx, he⟩ := List.mem_filterMap.1 hmem
          split at he
          · injection he with he; subst he; exact h2 _ hx rfl
          · cases he
        have k2 : o.looksAt ops.toArray = [t] := by
          unfold Oper.looksAt
          rw [hg, hop]
          rfl
        rw [k2]
        cases hj2 : oj.dst with
        | none => simpa using k1
        | some e =>
          obtain ⟨q1, q2⟩ := h3 e hj2
          simp [k1, q1, q2]
    · refine lz_any hsel hQ M F _ (σ.put d (lookT σ.t t)) _ (by simpa using hs) (fun m hm => hM m (List.mem_cons_of_mem _ hm)) (List.pairwise_cons.1 hP).2 (fun m hm => ?_) (by rw [e]; omega) ?_ (fun F' a' hu' hR' => hK F' a' hu' hR')
      · rw [LA_set (by omega), withL_ne (Ne.symm ((List.pairwise_cons.1 hP).1 m hm))]
        exact hl m (List.mem_cons_of_mem _ hm)
      · rw [hd]
        exact hR.put hdN (hR.slots t) (fun k hk => hR.sids t k hk)
theorem any_prefixC (hsig : SigOK sig) {ops : List Oper} {V : List Ent} {Ez : Env} {az : Act} {wz : World} (hpre : PreR σ base.bn ops Ez az wz) (hV : VOK sig σ ops V) (hac : acyc ops 0 = true)
    (hfull : ∀ i o, V.length ≤ i → ops[i]? = some o → ∀ L : Nat → Bool, DC ops L → (∀ j, hasAft o.after.toList j = true → L j = true) → ∀ j, j < V.length → L j = true)
    (hc : ∀ (F : Nat) (listed : Array Bool) E a w, listed.size = ops.length → (∀ j, LA listed j = decide (j < V.length)) → unl (LA listed) ops.length ≤ F → RJ σ base.bn ops V Ez az wz (fun j => decide (j < V.length)) E a w → wpAny Try.prog .any ops.toArray Q F listed a w) :
    ∀ (fuel : Nat) (listed : Array Bool) (E : Env) (a : Act) (w : World), listed.size = ops.length → (∀ j, LA listed j = true → j < V.length) → DC ops (LA listed) → unl (LA listed) ops.length ≤ fuel → RJ σ base.bn ops V Ez az wz (LA listed) E a w →
      wpAny Try.prog .any ops.toArray Q fuel listed a w := by
  have hdone : ∀ (fuel : Nat) (listed : Array Bool) (E : Env) (a : Act) (w : World), listed.size = ops.length → (∀ j, LA listed j = true → j < V.length) → unl (LA listed) ops.length ≤ fuel → RJ σ base.bn ops V Ez az wz (LA listed) E a w → (∀ j, j < V.length → LA listed j = true) →
      wpAny Try.prog .any ops.toArray Q fuel listed a w := by
    intro fuel listed E a w hs hlim hu hJ hall
    have hL : ∀ j, LA listed j = decide (j < V.length) := by
      intro j
      by_cases hj : j < V.length
      · rw [hall j hj]; simp [hj]
      · cases hl : LA listed j with
        | false => simp [hj]
        | true => exact absurd (hlim j hl) hj
    exact hc fuel listed E a w hs hL hu (hJ.congr fun j => (hL j).symm)
  intro fuel
  induction fuel with
  | zero =>
    intro listed E a w hs hlim hD hu hJ
    have hr := unl_zero hs (by omega)
    exact hdone 0 listed E a w hs hlim hu hJ fun j hj => all_listed hs hac hr (j + 1) j (by omega) (by have := hV.1; omega)
  | succ fuel ih =>
    intro listed E a w hs hlim hD hu hJ
    by_cases hall : ∀ j, j < V.length → LA listed j = true
    · exact hdone (fuel + 1) listed E a w hs hlim hu hJ hall
    · refine ⟨fun hr => absurd (fun j hj => all_listed hs hac hr (j + 1) j (by omega) (by have := hV.1; omega)) hall, fun i hi => ?_⟩
      obtain ⟨h1, o, ho, haf⟩ := (mem_rdy hs).1 hi
      have his : i < ops.length := (List.getElem?_eq_some_iff.1 ho).1
      have him : i < V.length := by
        rcases Nat.lt_or_ge i V.length with h | h
        · exact h
        · exact absurd (fun j hj => hfull i o h ho (LA listed) hD haf j hj) hall
      unfold wpOp
      have hoa : ops.toArray[i]? = some o := by simpa using ho
      simp only [hoa]
      have := step_ok hsig hpre hV hJ ho him h1 haf (Q := Q) (K := wpAny Try.prog .any ops.toArray Q fuel (listed.setIfInBounds i true)) (fun E' a' w' hJ' => by
        refine ih _ E' a' w' (by simpa using hs) (fun j hj => ?_) ?_ ?_ (hJ'.congr fun j => LA_set (by omega) j)
        · rw [LA_set (by omega)] at hj
          by_cases hji : j = i
          · subst hji; exact him
          · rw [withL_ne hji] at hj; exact hlim j hj
        · have e : LA (listed.setIfInBounds i true) = withL (LA listed) i := funext fun j => LA_set (by omega) j
          rw [e]; exact DC_set hD ho haf
        · have := unl_set his h1
          have e : unl (LA (listed.setIfInBounds i true)) ops.length = unl (withL (LA listed) i) ops.length := by
            congr 1; funext j; exact LA_set (by omega) j
          omega)
      split
      · rename_i hw; rw [if_pos hw] at this; exact .inl this
      · rename_i hw; rw [if_neg hw] at this; exact this
theorem memN_range (m j : Nat) : memN j (List.range m) = decide (j < m) := by
  cases h : memN j (List.range m) with
  | true => have := List.mem_range.1 (memN_iff.1 h); simp [this]
  | false =>
    have : ¬ j < m := fun hj => by rw [memN_iff.2 (List.mem_range.2 hj)] at h; cases h
    simp [this]
theorem evVA_ok (hsig : SigOK sig) (hxs : XSigOK xs) {ops : List Oper} {n : Nat} {k : St → Prop} (h : Rel base N σ E a w) (hk : evVA sig xs N ops (entW ops []) n σ k) (hQ : ∀ σ' E' a' w', Rel base N σ' E' a' w' → k σ' → Q .normal a' w') :
    wpAny Try.prog .any ops.toArray Q ops.length (Array.replicate ops.length false) a w := by
  unfold evVA at hk
  split at hk
  case h_2 => exact evLinR_ok (Q := Q) hsig hxs h hk hQ
  unfold evVB at hk
  have hall := fun hp => pRun_all (sig := sig) (σ := σ) (l := ops) (cutM (entW ops []) n) hp
  generalize hm : cutM (entW ops []) n = m at hk hall
  have hp2 : (pRunM sig σ ops m).1 → (pRunM sig σ ops m).2.1.length ≤ ops.length ∧ VOK sig σ ops (pRunM sig σ ops m).2.1 := fun hp => ⟨(hall hp).1, (hall hp).2⟩
  generalize hr : pRunM sig σ ops m = r at hk hp2
  obtain ⟨p, V, rest⟩ := r
  simp only at hk hp2
  obtain ⟨hb, hp, ha⟩ := hk
  obtain ⟨h3, hV⟩ := hp2 hp
  simp only [Bool.and_eq_true, beq_iff_eq] at hb
  obtain ⟨⟨⟨b1, b2⟩, b3⟩, b4⟩ := hb
  have hd := dstB_ok b1
  have hpre := h.pre hd
  subst b4
  obtain ⟨hW, hWl⟩ := entW_sem (ops := ops) ops [] (by simp) (by simp) (fun j e o hj => by simp at hj)
  have hla : ∀ j, LA (Array.replicate ops.length false) j = false := fun j => by
    simp [LA, Array.getD_eq_getD_getElem?, Array.getElem?_replicate]
    split <;> rfl
  refine any_prefixC hsig hpre hV b2 (cover_ok hW hWl b3) (fun F listed E' a' w' hs hL hu hJ => ?_) ops.length (Array.replicate ops.length false) E a w (by simp) (fun j hj => by rw [hla] at hj; cases hj) (fun j o hj => by rw [hla] at hj; cases hj) (by
    unfold unl
    exact Nat.le_trans (List.length_filter_le _ _) (by simp)) ((RJ_start hpre (.inl rfl)).congr fun j => hla j)
  exact evAny_ok hsig hxs b2 hQ F ops.length [] (List.range V.length) listed _ E' a' w' hs (fun j => by rw [hL, memN_range]) hu (h.of_RJ hd hV hJ) ha
theorem evReg_ok (hsig : SigOK sig) (hxs : XSigOK xs) {id : Nat} {ops : Array Oper} {d : Bool} {k : St → Prop} (hm : Try.prog.follows .mixedOrders = true) (h : Rel base N σ E a w) (hk : evReg sig xs N ops.toList d σ k) (hQ : ∀ σ' E' a' w', Rel base N σ' E' a' w' → k σ' → Q .normal a' w') :
    (Code.region id ops d).wp Try.prog Q a w := by
  obtain ⟨l⟩ := ops
  unfold evReg at hk
  simp only at hk
  have hspec := fun hp => pRunC_spec (sig := sig) (σ := σ) (l := l) hp
  generalize hr : pRunC sig σ l = r at hk hspec
  obtain ⟨p, V, rest⟩ := r
  simp only at hk hspec
  split at hk
  case h_2 hfb =>
    cases d with
    | false => simp at hfb
    | true =>
      have hgr : Rel base N σ E a w.drew := h.grow ⟨rfl, rfl, rfl, Nat.le_refl _, fun _ _ _ => rfl⟩
      split at hk
      · refine wp_region_any hm ?_
        have := evPF_ok (Q := Q) hsig hxs hgr hk hQ
        simpa using this
      split at hk
      · obtain ⟨hac0, hk⟩ := hk
        simp only [Bool.and_eq_true] at hac0
        obtain ⟨hac, hsel⟩ := hac0
        have hla : ∀ j, LA (Array.replicate l.length false) j = false := fun j => by
          simp [LA, Array.getD_eq_getD_getElem?, Array.getElem?_replicate]
          split <;> rfl
        have hQ0 : ∀ σ' E' a' w', Rel base N σ' E' a' w' → k σ' → (fun e a w => e = Exit.normal ∧ Q e a w) .normal a' w' := fun σ' E' a' w' h1 h2 => ⟨rfl, hQ σ' E' a' w' h1 h2⟩
        refine Code.wp_mono (Q := fun e a w => e = Exit.normal ∧ Q e a w) (fun _ _ _ h => h.2) ?_
        refine wp_region_any hm ?_
        have hmok : ∀ m ∈ lzOf N l l 0, lz1 N l m ∧ 0 ≤ m.1 := fun m hm' => lzOf_ok l 0 (fun j o hj => by simpa using hj) m hm'
        have hset : ∀ j, LA (setM (lzOf N l l 0) (Array.replicate l.length false)) j = memN j (idxM (lzOf N l l 0)) := by
          intro j
          have h1 := setM_LA (lzOf N l l 0) (Array.replicate l.length false) (j := j) (fun m hm' => by
            obtain ⟨o, ho, _⟩ := (hmok m hm').1.1
            simpa using (List.getElem?_eq_some_iff.1 ho).1)
          rw [h1, hla]; simp
        have := lz_any (Q := fun e a w => e = Exit.normal ∧ Q e a w) hsel (fun c a w h => by cases h.1) (lzOf N l l 0) l.length (Array.replicate l.length false) σ a (by simp) (fun m hm' => (hmok m hm').1) (lzOf_sorted l 0) (fun m _ => hla _) (by
          unfold unl
          exact Nat.le_trans (List.length_filter_le _ _) (by simp)) hgr (fun F a' hu hR' => evAny_ok hsig hxs hac hQ0 F l.length [] (idxM (lzOf N l l 0)) _ _ E a' w.drew (by rw [setM_size]; simp) hset hu hR' hk)
        simpa using this
      · refine wp_region_any hm ?_
        have := evVA_ok (Q := Q) hsig hxs hgr hk hQ
        simpa using this
  case h_1 hfb =>
  obtain ⟨hb, hp, ht⟩ := hk
  obtain ⟨h2, h3, hV⟩ := hspec hp
  simp only [Bool.and_eq_true] at hb
  have hd := dstB_ok hb.1
  have hpre := h.pre hd
  have hcont : ∀ E' a' w', RJ σ base.bn l V E a w (fun j => decide (j < V.length)) E' a' w' → wpList Try.prog l.toArray Q (l.drop V.length) a' w' := by
    intro E' a' w' hJ
    rw [← h2]
    exact evTail_ok hsig hxs rest [] [] _ E' a' w' k (h.of_RJ hd hV hJ) TP.nil ht hQ
  cases d with
  | false =>
    refine wp_region_lit ?_
    have := list_prefix hsig hpre hV V.length 0 E a w (by omega) ((RJ_start hpre (.inl rfl)).congr fun j => by simp) hcont
    simpa using this
  | true =>
    have hb2 : acyc l 0 = true ∧ fullB V rest V.length = true := ⟨by simpa using hb.2, by simpa using hfb⟩
    have hS : Sem1 l V := by
      intro j e o hj ho
      obtain ⟨o', p', path, d, p0, f, nb, q0, _, _, _, _, _, _, _, _, _, q9⟩ := ent_of hV hj
      rw [ho] at q0; injection q0 with q0; subst q0
      rw [q9]
    have hfull := fullB_ok rest V hS h3 h2 hb2.2
    refine wp_region_any hm ?_
    have hla : ∀ j, LA (Array.replicate l.length false) j = false := fun j => by
      simp [LA, Array.getD_eq_getD_getElem?, Array.getElem?_replicate]
      split <;> rfl
    have := any_prefix hsig hpre hV hb2.1 hfull hcont l.length (Array.replicate l.length false) E a w.drew (by simp) (fun j hj => by rw [hla] at hj; cases hj) (fun j o hj => by rw [hla] at hj; cases hj) (by
      unfold unl
      exact Nat.le_trans (List.length_filter_le _ _) (by simp)) ((RJ_start hpre (.inr rfl)).congr fun j => hla j)
    simpa using this
def XE.out : XE → Exit
  | .normal => .normal
  | .exit i => .exit i
  | .ret => .ret
theorem nilAt_ok {s i k : Nat} {m : List SV} (h : nilAt σ s i = some (k, m)) : lookB σ.b k = some (.box m) ∧ m[i]? = some .nil := by
  unfold nilAt at h
  split at h
  · split at h
    · split at h
      · injection h with h; injection h with h1 h2; subst h1 h2
        rename_i hb _ hn
        exact ⟨hb, hn⟩
      · cases h
    · cases h
  · cases h
theorem prep1_ok (h : Rel base N σ E a w) : ∀ v : Vary, ∃ E', Rel base N (prep1 σ v) E' a w
  | .v _ => ⟨E, h⟩
  | .b _ => ⟨E, h⟩
  | .f s i t => by
    cases hna : nilAt σ s i with
    | none => exact ⟨E, by simp only [prep1, hna]; exact h⟩
    | some km =>
      obtain ⟨k, m⟩ := km
      obtain ⟨hm, hi⟩ := nilAt_ok hna
      cases hty : tyOf t with
      | none => exact ⟨E, by simp only [prep1, hna, hty]; exact h⟩
      | some ty =>
        cases ty with
        | sc => exact ⟨E, by simp only [prep1, hna, hty]; exact h⟩
        | st z => exact ⟨E, by simp only [prep1, hna, hty]; exact h⟩
        | sl e c =>
          have ht := hty
          have hp : prep1 σ (.f s i t) = ⟨σ.t, (k, .box (m.set i (.row σ.n))) :: (σ.n, .row e c) :: σ.b, σ.n + 1⟩ := by
            simp only [prep1, hna, hty]
          rw [hp]
          obtain ⟨hu, h0, _⟩ := ty_sl ht
          have hbx : (Bx.row e c).ok base.bn (E.new σ.n (.slice none 0 0)) w (.slice none 0 0) := ⟨[], ⟨by rw [h0]; simp, .inl ⟨rfl, h0⟩⟩, empty_cells h0⟩
          have hn := h.new (v := .slice none 0 0) (bx := .row e c) (same_grown w) hbx (fun b hb => by cases hb) rfl
          have hk : k < σ.n := (h.bids k _ hm).1
          have hlk : lookB ((σ.n, Bx.row e c) :: σ.b) k = some (.box m) := by
            simp only [lookB]; rw [if_neg (by simp; omega)]; exact hm
          have hok := hn.mem.ok k _ hlk
          obtain ⟨g, cs, e', e1, e2, e3, e4⟩ := hok
          refine ⟨_, hn.write hlk (by rw [e1]; rfl) (w' := w) ⟨rfl, rfl, rfl, Nat.le_refl _, fun _ _ _ => rfl⟩ (bx := .box (m.set i (.row σ.n))) ⟨g, cs, e', e1, e2, e3, ?_⟩ ?_⟩
          · obtain ⟨q1, q2⟩ := hasL_get e4
            refine hasL_mk (by simp [q1]) fun j x u hj hu => ?_
            rw [List.getElem?_set] at hj
            split at hj
            · rename_i hij
              subst hij
              split at hj
              · injection hj with hj
                subst hj
                obtain ⟨u', u1, u2⟩ := q2 i _ hi
                rw [hu] at u1; injection u1 with u1; subst u1
                show u = (E.new σ.n (.slice none 0 0)).hd σ.n
                rw [new_hd_self]
                exact u2
              · cases hj
            · obtain ⟨u', u1, u2⟩ := q2 j _ hj
              rw [hu] at u1; injection u1 with u1; subst u1
              exact u2
          · refine List.all_eq_true.2 fun x hx => ?_
            rcases List.mem_or_eq_of_mem_set hx with hx | rfl
            · exact List.all_eq_true.1 (hn.bids k _ hlk).2 x hx
            · exact blt_iff.2 (Nat.lt_succ_self _)
theorem prep_ok : ∀ (l : List Vary) (σ : St) (E : Env), Rel base N σ E a w → ∃ E', Rel base N (prep l σ) E' a w
  | [], σ, E, h => ⟨E, h⟩
  | v :: l, σ, E, h => by
    obtain ⟨E', h'⟩ := prep1_ok h v
    exact prep_ok l (prep1 σ v) E' h'
theorem ev_ok (hsig : SigOK sig) (hxs : XSigOK xs) {va : Nat → List Vary} (hm : Try.prog.follows .mixedOrders = true) : ∀ (c : Code) (id : Nat) (σ : St) (k : XE → St → Prop) (E : Env) (a : Act) (w : World) (Q : Exit → Act → World → Prop), Rel base N σ E a w → ev sig xs N va c id σ k →
    (∀ e σ' E' a' w', Rel base N σ' E' a' w' → k e σ' → Q e.out a' w') → c.wp Try.prog Q a w := by
  intro c
  induction c with
  | skip => intro id σ k E a w Q h hk hQ; exact wp_skip (hQ .normal σ E a w h hk)
  | region i ops d => intro id σ k E a w Q h hk hQ; exact evReg_ok hsig hxs hm h hk fun σ' E' a' w' h' hk' => hQ .normal σ' E' a' w' h' hk'
  | seq x y ihx ihy =>
    intro id σ k E a w Q h hk hQ
    refine wp_seq (ihx id σ _ E a w _ h hk ?_)
    intro e σ' E' a' w' h' hk'
    cases e with
    | normal => exact ihy id σ' k E' a' w' Q h' hk' hQ
    | exit i => exact hQ (.exit i) σ' E' a' w' h' hk'
    | ret => exact hQ .ret σ' E' a' w' h' hk'
  | cond c x y ihx ihy =>
    intro id σ k E a w Q h hk hQ
    unfold ev at hk
    split at hk
    · rename_i b hb
      have hc : a.eval c = .bool b := by have := gS_has h c; rw [hb] at this; exact this
      exact wp_cond_split hc (fun ht => ihx id σ k E a w Q h (hk.1 ht) hQ) (fun hf => ihy id σ k E a w Q h (hk.2 hf) hQ)
    · exact hk.elim
  | block i x ih =>
    intro id σ k E a w Q h hk hQ
    refine wp_block (ih i σ _ E a w _ h hk ?_)
    intro e σ' E' a' w' h' hk'
    cases e with
    | normal => exact hQ .normal σ' E' a' w' h' hk'
    | exit j =>
      simp only at hk'
      show Exit.inBlock i Q (.exit j) a' w'
      by_cases hj : j = i
      · subst hj
        rw [if_pos (by simp)] at hk'
        simp only [Exit.inBlock, if_true]
        exact hQ .normal σ' E' a' w' h' hk'
      · rw [if_neg (by simpa using hj)] at hk'
        simp only [Exit.inBlock, if_neg hj]
        exact hQ (.exit j) σ' E' a' w' h' hk'
    | ret => exact hQ .ret σ' E' a' w' h' hk'
  | loop x ih =>
    intro id σ k E a w Q h hk hQ
    unfold ev at hk
    obtain ⟨E, h⟩ := prep_ok (va id) σ E h
    generalize prep (va id) σ = σ at *
    obtain ⟨I, μ, ⟨h0, hk0, hI0⟩, hr⟩ := hk
    generalize hσz : dropAl (headS σ (codeW x) (varyS (va id))) (va id) = σz at *
    have hn : σz.n = σ.n := by rw [← hσz]; rfl
    refine wp_loop_ghost (fun n a w => ∃ g E, n = μ g ∧ I g ∧ g.map GV.kd = (getG σz (va id)).map GV.kd ∧ Rel base N (fillG σz (va id) g) E a w) _ ⟨getG σ (va id), _, rfl, hI0, hk0, h.sub h0 (by rw [fillG_n, hn]) h.fr.pos⟩ ?_
    · rintro n a' w' ⟨g, E', rfl, hIg, hkd, hR⟩
      refine ih id _ _ E' a' w' _ hR (allG_at hr g hkd hIg) ?_
      intro e σ' E'' a'' w'' h' hk'
      cases e with
      | normal =>
        obtain ⟨hs, hkd', hI', hμ⟩ := hk'
        exact ⟨_, hμ, _, _, rfl, hI', hkd', h'.sub hs (by rw [fillG_n, hn]) (by have := hR.fr.pos; rw [fillG_n, hn] at this; exact this)⟩
      | exit i => exact hQ (.exit i) σ' E'' a'' w'' h' hk'
      | ret => exact hQ .ret σ' E'' a'' w'' h' hk'
  | exit i => intro id σ k E a w Q h hk hQ; exact wp_exit (hQ (.exit i) σ E a w h hk)
  | ret => intro id σ k E a w Q h hk hQ; exact wp_ret (hQ .ret σ E a w h hk)
  | _ => intro id σ k E a w Q h hk hQ; exact hk.elim
end
end Go.Proofs.Ytdpokkegkedlfaa
