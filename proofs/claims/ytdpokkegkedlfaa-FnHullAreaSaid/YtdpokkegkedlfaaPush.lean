/- Parts with loops whose other slots stay; a row put behind a table's rows. -/
import Derived.Test.YtdpokkegkedlfaaFrag
import Derived.Shelf.Abstract
set_option maxRecDepth 100000
namespace Go.Proofs.Ytdpokkegkedlfaa
open Go.RowKit
def wrL : Code → List Nat
  | .region _ ops _ => ops.toList.filterMap (·.dst)
  | .seq x y => wrL x ++ wrL y
  | .cond _ x y => wrL x ++ wrL y
  | .block _ x => wrL x
  | .loop x => wrL x
  | _ => []
section
variable {sig : FuncId → List AV → Option Sg} {xs : XS} {base : Base} {N : Nat} {va : Nat → List Vary} {σ : St} {E : Env} {a : Act} {w : World} {Q : Exit → Act → World → Prop}
theorem ev_okL (hsig : SigOK sig) (hxs : XSigOK xs) (hm : Try.prog.follows .mixedOrders = true) {ds : Nat → Bool} : ∀ (c : Code) (id : Nat) (σ : St) (k : XE → St → Prop) (E : Env) (a : Act) (w : World) (Q : Exit → Act → World → Prop), (∀ s ∈ wrL c, ds s = true) → Rel base N σ E a w → ev sig xs N va c id σ k →
    (∀ e σ' E' a' w', Rel base N σ' E' a' w' → k e σ' → Same ds a a' → Q e.out a' w') → c.wp Try.prog Q a w := by
  intro c
  induction c with
  | skip => intro id σ k E a w Q _ h hk hQ; exact wp_skip (hQ .normal σ E a w h hk (Same.refl _ _))
  | ret => intro id σ k E a w Q _ h hk hQ; exact wp_ret (hQ .ret σ E a w h hk (Same.refl _ _))
  | exit i => intro id σ k E a w Q _ h hk hQ; exact wp_exit (hQ (.exit i) σ E a w h hk (Same.refl _ _))
  | region i ops d =>
    intro id σ k E a w Q hd h hk hQ
    refine Code.wp_mono (Q := KQ (fun e a' w' => e = .normal ∧ ∃ σ' E', Rel base N σ' E' a' w' ∧ k .normal σ') ds a) ?_ (evReg_okK hsig hxs (fun o ho s hs => hd s (List.mem_filterMap.2 ⟨o, ho, hs⟩)) hm h hk fun σ' E' a' w' h' hk' => ⟨rfl, σ', E', h', hk'⟩)
    rintro e a' w' ⟨⟨rfl, σ', E', h', hk'⟩, hs⟩
    exact hQ .normal σ' E' a' w' h' hk' (hs rfl)
  | seq x y ihx ihy =>
    intro id σ k E a w Q hd h hk hQ
    refine wp_seq (ihx id σ _ E a w _ (fun s hs => hd s (List.mem_append_left _ hs)) h hk ?_)
    intro e σ' E' a' w' h' hk' hs
    cases e with
    | normal => exact ihy id σ' k E' a' w' Q (fun s hs => hd s (List.mem_append_right _ hs)) h' hk' fun e2 σ2 E2 a2 w2 h2 hk2 hs2 => hQ e2 σ2 E2 a2 w2 h2 hk2 (hs.trans hs2)
    | exit i => exact hQ (.exit i) σ' E' a' w' h' hk' hs
    | ret => exact hQ .ret σ' E' a' w' h' hk' hs
  | cond c x y ihx ihy =>
    intro id σ k E a w Q hd h hk hQ
    unfold ev at hk
    split at hk
    · rename_i b hb
      have hc : a.eval c = .bool b := by have := gS_has h c; rw [hb] at this; exact this
      exact wp_cond_split hc (fun ht => ihx id σ k E a w Q (fun s hs => hd s (List.mem_append_left _ hs)) h (hk.1 ht) hQ) (fun hff => ihy id σ k E a w Q (fun s hs => hd s (List.mem_append_right _ hs)) h (hk.2 hff) hQ)
    · exact hk.elim
  | block i x ih =>
    intro id σ k E a w Q hd h hk hQ
    refine wp_block (ih i σ _ E a w _ hd h hk ?_)
    intro e σ' E' a' w' h' hk' hs
    cases e with
    | normal => exact hQ .normal σ' E' a' w' h' hk' hs
    | exit j =>
      simp only at hk'
      show Exit.inBlock i Q (.exit j) a' w'
      by_cases hj : j = i
      · subst hj
        rw [if_pos (by simp)] at hk'
        simp only [Exit.inBlock, if_true]
        exact hQ .normal σ' E' a' w' h' hk' hs
      · rw [if_neg (by simpa using hj)] at hk'
        simp only [Exit.inBlock, if_neg hj]
        exact hQ (.exit j) σ' E' a' w' h' hk' hs
    | ret => exact hQ .ret σ' E' a' w' h' hk' hs
  | loop x ih =>
    intro id σ k E a w Q hd h hk hQ
    unfold ev at hk
    obtain ⟨E, h⟩ := prep_ok (va id) σ E h
    generalize prep (va id) σ = σ at *
    obtain ⟨I, μ, ⟨h0, hk0, hI0⟩, hr⟩ := hk
    generalize hσz : dropAl (headS σ (codeW x) (varyS (va id))) (va id) = σz at *
    have hn : σz.n = σ.n := by rw [← hσz]; rfl
    refine wp_loop_ghost (fun n a' w => ∃ g E, n = μ g ∧ I g ∧ g.map GV.kd = (getG σz (va id)).map GV.kd ∧ Rel base N (fillG σz (va id) g) E a' w ∧ Same ds a a') _ ⟨getG σ (va id), _, rfl, hI0, hk0, h.sub h0 (by rw [fillG_n, hn]) h.fr.pos, Same.refl _ _⟩ ?_
    · rintro n a' w' ⟨g, E', rfl, hIg, hkd, hR, hs0⟩
      refine ih id _ _ E' a' w' _ hd hR (allG_at hr g hkd hIg) ?_
      intro e σ' E'' a'' w'' h' hk' hs
      cases e with
      | normal =>
        obtain ⟨hsb, hkd', hI', hμ⟩ := hk'
        exact ⟨_, hμ, _, _, rfl, hI', hkd', h'.sub hsb (by rw [fillG_n, hn]) (by have := hR.fr.pos; rw [fillG_n, hn] at this; exact this), hs0.trans hs⟩
      | exit i => exact hQ (.exit i) σ' E'' a'' w'' h' hk' (hs0.trans hs)
      | ret => exact hQ .ret σ' E'' a'' w'' h' hk' (hs0.trans hs)
  | _ => intro id σ k E a w Q _ h hk hQ; exact hk.elim
theorem frag_wpL (hsig : SigOK sig) (hxs : XSigOK xs) (hm : Try.prog.follows .mixedOrders = true) {ds : Nat → Bool} : ∀ (n : Nat) (c : Code) (id : Nat) (σ : St) (k : XE → St → Prop) (E : Env) (a : Act) (w : World) (Q : Exit → Act → World → Prop), (longS n c && (wrL (takeS n c)).all ds) = true → Rel base N σ E a w → ev sig xs N va (takeS n c) id σ k →
    (∀ e σ' E' a' w', Rel base N σ' E' a' w' → k e σ' → Same ds a a' → Exit.then ((dropS (n + 1) c).wp Try.prog Q) Q e.out a' w') → c.wp Try.prog Q a w := by
  intro n
  induction n with
  | zero =>
    intro c id σ k E a w Q hl h hk hQ
    simp only [Bool.and_eq_true] at hl
    cases c with
    | seq x y => exact wp_seq (ev_okL hsig hxs hm x id σ k E a w _ (fun s hs => List.all_eq_true.1 hl.2 s hs) h hk hQ)
    | _ => cases hl.1
  | succ n ih =>
    intro c id σ k E a w Q hl h hk hQ
    simp only [Bool.and_eq_true] at hl
    cases c with
    | seq x y =>
      obtain ⟨l1, l3⟩ := hl
      have l3' : ∀ s ∈ wrL x ++ wrL (takeS n y), ds s = true := fun s hs => List.all_eq_true.1 l3 s hs
      refine wp_seq (ev_okL hsig hxs hm x id σ _ E a w _ (fun s hs => l3' s (List.mem_append_left _ hs)) h hk ?_)
      intro e σ' E' a' w' h' hk' hs
      cases e with
      | normal => exact ih y id σ' k E' a' w' Q (by simp only [Bool.and_eq_true]; exact ⟨l1, List.all_eq_true.2 fun s hs => l3' s (List.mem_append_right _ hs)⟩) h' hk' fun e2 σ2 E2 a2 w2 h2 hk2 hs2 => hQ e2 σ2 E2 a2 w2 h2 hk2 (hs.trans hs2)
      | exit i => exact hQ (.exit i) σ' E' a' w' h' hk' hs
      | ret => exact hQ .ret σ' E' a' w' h' hk' hs
    | _ => cases hl.1
end
/-- 'out = append(out, row)'. -/
def chkPush (tt : TypeId) (p q N : Nat) : Code → Bool
  | .region _ ops false => match ops.toList with
    | [o1, o2, o3, o4, o5] => match o1.op, o2.op, o3.op, o4.op, o5.op with
      | .move (.tmp p'), .move (.tmp q'), .buildSlice t3 1 ps, .call ⟨.builtin .append, args, ats⟩, .assign (.tmp d4') => match o1.dst, o2.dst, o3.dst, o4.dst, o5.dst with
        | some d1, some d2, some d3, some d4, some p2 => o1.guard.isNone && o2.guard.isNone && o3.guard.isNone && o4.guard.isNone && o5.guard.isNone && p' == p && q' == q && t3 == tt && argsB args.toList [d1, d3] && (match ps.toList with | [(0, .tmp x)] => x == d2 | _ => false) && (match ats.toList with | [t5, t6] => t5 == tt && t6 == tt | _ => false) && d4' == d4 && p2 == p
            && !(d1 == q) && !(d1 == d2) && !(d1 == d3) && !(d2 == d3) && Nat.blt d1 N && Nat.blt d2 N && Nat.blt d3 N && Nat.blt d4 N && Nat.blt p N
        | _, _, _, _, _ => false
      | _, _, _, _, _ => false
    | _ => false
  | _ => false
theorem wpl_build1 {ops : Array Oper} {rest : List Oper} {o : Oper} {Q : Exit → Act → World → Prop} {a : Act} {w : World} {t e : TypeId} {c : Cont} {x : Nat} {ps : Array (Nat × Operand)} (ht : tyOf t = some (.sl e c)) (hc : c.sz = 1) (hop : o.op = .buildSlice t 1 ps) (hps : ps.toList = [(0, .tmp x)]) (hg : o.guard = none) {u : Value} (hx : a.tmps.getD x undef = u) (hu : u.oneCell' = true)
    (h : wpList Try.prog ops Q rest (a.put o.dst (.slice (some ⟨w.heap.size, 0, none⟩) 1 1)) (w.alloc (.cells #[u] e))) : wpList Try.prog ops Q (o :: rest) a w :=
  wpList_plain hg fun _ hK => by
    unfold Oper.wp
    have e1 : (execOp a.eval o).run Try.prog w = .ok (.value (.slice (some ⟨w.heap.size, 0, none⟩) 1 1)) (w.alloc (.cells #[u] e)) := by
      unfold execOp
      simp only [hop]
      have hps' : ps = #[(0, .tmp x)] := by apply Array.ext'; exact hps
      subst hps'
      have := run_bs (w := w) ht 1 (by omega) #[(0, u)] [u] (fun rs hr => by
        rw [hc] at hr ⊢
        match rs, hr with
        | [r], _ => cases u <;> first | rfl | cases hu)
      simp [eval_tmp, hx, this, Result.andThen]
    rw [e1]
    exact hK _ _ h
theorem push_item {α : Type} {c : Code} {tt e e' : TypeId} {ct : Cont} {sz p q N base : Nat} {fl : List α → List Value} {Q : Exit → Act → World → Prop} {a : Act} {w : World} {v u : Value} {xs : List Value} {rows : List (List α)} {m : List α} (h : (chkPush tt p q N c && inS (wrS c) p) = true) (hN : a.tmps.size = N) (ht : tyOf tt = some (.sl e ct)) (hc : ct.sz = 1) (hne : e ≠ e')
    (hi : (Try.prog.info? e).map (fun i => (i.zero, i.size, i.bytes)) = some (some (.slice none 0 0), 1, 24))
    (hp : a.tmps.getD p undef = v) (hq : a.tmps.getD q undef = u) (hT : Tab base e e' sz fl w v xs rows) (hu : w.ownsRow base e' sz u m.length (fl m)) (hd : ∀ b, u.ownBlock = some b → ¬ TabB v xs b) (hb : base ≤ w.heap.size) (hn : rows.length ≤ 1000000)
    (hv : ∀ a' w' v', a'.tmps.size = N → a'.defers = a.defers → Same (inS (wrS c)) a a' → a'.tmps.getD p undef = v' → Tab base e e' sz fl w' v' (xs ++ [u]) (rows ++ [m]) → w.grownBy w' v.ownBlock → Q .normal a' w') : c.wp Try.prog Q a w := by
  rw [Bool.and_eq_true] at h
  obtain ⟨h, he⟩ := h
  unfold chkPush at h
  split at h
  · rename_i id ops
    obtain ⟨l⟩ := ops
    simp only at h
    split at h
    · rename_i o1 o2 o3 o4 o5
      split at h
      · rename_i p' q' t3 ps args ats d4' k1 k2 k3 k4 k5
        split at h
        · rename_i d1 d2 d3 d4 p2 f1 f2 f3 f4 f5
          simp only [Bool.and_eq_true, beq_iff_eq, Bool.not_eq_true', beq_eq_false_iff_ne, ne_eq] at h
          obtain ⟨⟨⟨⟨⟨⟨⟨⟨⟨⟨⟨⟨⟨⟨⟨⟨⟨⟨⟨⟨⟨g1, g2⟩, g3⟩, g4⟩, g5⟩, rfl⟩, rfl⟩, rfl⟩, m9⟩, m10⟩, m11⟩, rfl⟩, rfl⟩, m14⟩, m15⟩, m16⟩, m17⟩, m18⟩, m19⟩, m20⟩, m21⟩, m22⟩ := h
          have hps : ps.toList = [(0, .tmp d2)] := by
            split at m10
            · rename_i x hx; rw [hx, beq_iff_eq.1 m10]
            · cases m10
          have hats : ats = #[t3, t3] := by
            apply Array.ext'
            split at m11
            · rename_i x y hx
              simp only [Bool.and_eq_true, beq_iff_eq] at m11
              rw [hx, m11.1, m11.2]
            · cases m11
          have hargs : args = #[.tmp d1, .tmp d3] := by
            apply Array.ext'
            rw [argsB_eq _ _ m9]; rfl
          subst hats hargs
          have hw : ∀ o ∈ [o1, o2, o3, o4, o5], ∀ s, o.dst = some s → inS (wrS (Code.region id ⟨[o1, o2, o3, o4, o5]⟩ false)) s = true := fun o ho s hs => inS_iff.2 (List.mem_filterMap.2 ⟨o, ho, hs⟩)
          obtain ⟨hun, _, i, z, hi', hs', _, hz', hzs, _⟩ := ty_sl ht
          rw [hi'] at hi
          simp only [Option.map_some, Option.some.injEq, Prod.mk.injEq] at hi
          obtain ⟨i1, i2, i3⟩ := hi
          have hone : u.oneCell' = true := by obtain ⟨A, c, rfl⟩ := own_form hu; rfl
          refine wp_region_lit ?_
          refine wpl_move k1 (none_of g1) ?_
          rw [f1, eval_tmp, hp]
          have n1 : d1 < a.tmps.size := by rw [hN]; exact blt_iff.1 m18
          refine wpl_move k2 (none_of g2) ?_
          rw [f2, eval_tmp, fput_get n1, if_neg (fun e => m14 e.symm), hq]
          have n2 : d2 < (a.put (some d1) v).tmps.size := by rw [fput_size, hN]; exact blt_iff.1 m19
          refine wpl_build1 (u := u) ht hc k3 hps (none_of g3) (by rw [fput_get n2, if_pos rfl]) hone ?_
          rw [f3]
          have n3 : d3 < ((a.put (some d1) v).put (some d2) u).tmps.size := by rw [fput_size, fput_size, hN]; exact blt_iff.1 m20
          have hg0 := World.grownBy_alloc w (.cells #[u] e) none
          have hT0 : Tab base e e' sz fl (w.alloc (.cells #[u] e)) v xs rows := hT.kept hg0 (fun b hb => by cases hb)
          have hu0 : (w.alloc (.cells #[u] e)).ownsRow base e' sz u m.length (fl m) := hu.kept hg0 (none_or fun b hb => by cases hb)
          refine wpList_append_ownB (none_of g4) (.tmp d1) (.tmp d3) t3 k4 base e i (.slice none 0 0) 1 24 hun hi' i1 i2 i3 (by rfl) (by omega) v rows.length xs (by rw [eval_tmp, fput_get n3, if_neg m16, fput_get n2, if_neg m15, fput_get n1, if_pos rfl]) hT0.outer
            ⟨w.heap.size, 0, none⟩ 1 1 [u] (by rw [eval_tmp, fput_get n3, if_pos rfl]) rfl (fun j x hj => ?_) (fun x hx => by simp only [List.mem_singleton] at hx; subst hx; exact hone) (by unfold maxLen; omega) (by omega) (Nat.le_trans hb hg0.size) ?_
          · match j, hj with
            | 0, hj => simp at hj; subst hj; simp [Addr.add]
          intro v' w' ho hgr hbl
          rw [f4]
          have n4 : d4' < (((a.put (some d1) v).put (some d2) u).put (some d3) (.slice (some ⟨w.heap.size, 0, none⟩) 1 1)).tmps.size := by rw [fput_size, fput_size, fput_size, hN]; exact blt_iff.1 m21
          refine wpl_assign k5 (none_of g5) ?_
          rw [f5, eval_tmp, fput_get n4, if_pos rfl]
          have n5 : p2 < ((((a.put (some d1) v).put (some d2) u).put (some d3) (.slice (some ⟨w.heap.size, 0, none⟩) 1 1)).put (some d4') v').tmps.size := by rw [fput_size, fput_size, fput_size, fput_size, hN]; exact blt_iff.1 m22
          refine hv _ w' v' ?_ rfl ?_ (by rw [fput_get n5, if_pos rfl]) (hT0.push hne hu0 hd ho hgr) (grown_trans (grown_alloc w _ _) hgr)
          · rw [fput_size, fput_size, fput_size, fput_size, fput_size, hN]
          · exact (((((Same.refl _ a).put fun s e => hw o1 (by simp) s (by rw [f1]; exact e)).put fun s e => hw o2 (by simp) s (by rw [f2]; exact e)).put fun s e => hw o3 (by simp) s (by rw [f3]; exact e)).put fun s e => hw o4 (by simp) s (by rw [f4]; exact e)).put fun s e => hw o5 (by simp) s (by rw [f5]; exact e)
        · cases h
      · cases h
    · cases h
  · cases h
def fragK2 (xr extra : Prop) (ends : List (Nat × EV)) (rs : List ResultVar) (ret : List RV) : XE → St → Prop
  | .exit _, _ => False
  | .normal, σ => extra ∧ mEnd σ ends
  | .ret, σ => xr ∧ mRes σ rs ret
/-! ### A loop between parts -/
def lftS : Code → Code
  | .seq x _ => x
  | c => c
def rgtS : Code → Code
  | .seq _ y => y
  | c => c
def inLB : Code → Code
  | .block _ (.loop x) => x
  | .block _ x => x
  | c => c
def lpA (c : Code) : Code := lftS (lftS c)
def lpT (c : Code) : Code := lftS (inLB (rgtS (lftS c)))
def lpX (c : Code) : Code := inLB (lftS (rgtS (rgtS (inLB (rgtS (lftS c))))))
def lpS (c : Code) : Code := rgtS (rgtS (rgtS (inLB (rgtS (lftS c)))))
def notLoop : Code → Bool
  | .loop _ => false
  | _ => true
def chkLoop (q : Nat) : Code → Bool
  | .seq (.seq _ (.block i (.loop (.seq _ (.seq (.cond (.tmp q') .skip (.exit i')) (.seq (.block _ x) _)))))) _ => q' == q && i' == i && notLoop x
  | _ => false
theorem loop_item {P : Program} {Q : Exit → Act → World → Prop} {c : Code} {q : Nat} {a : Act} {w : World} (h : chkLoop q c = true) (I : Nat → Act → World → Prop) (n0 : Nat)
    (h0 : (lpA c).wp P (fun e a w => e = .normal ∧ I n0 a w) a w)
    (hr : ∀ n a w, I n a w → (lpT c).wp P (fun e a1 w1 => e = .normal ∧ ∃ b, a1.tmps.getD q undef = .bool b ∧ (b = true → (lpX c).wp P (fun e a2 w2 => e = .normal ∧ (lpS c).wp P (fun e a3 w3 => e = .normal ∧ ∃ m, m < n ∧ I m a3 w3) a2 w2) a1 w1) ∧ (b = false → (dropS 1 c).wp P Q a1 w1)) a w) : c.wp P Q a w := by
  unfold chkLoop at h
  split at h
  · rename_i A i T q' i' j x s r
    simp only [Bool.and_eq_true, beq_iff_eq] at h
    obtain ⟨⟨rfl, rfl⟩, hx⟩ := h
    have hX : lpX (.seq (.seq A (.block i' (.loop (.seq T (.seq (.cond (.tmp q') .skip (.exit i')) (.seq (.block j x) s)))))) r) = x := by
      show inLB (.block j x) = x
      cases x <;> first | rfl | cases hx
    rw [hX] at hr
    refine wp_seq (wp_seq (Code.wp_mono ?_ h0))
    rintro e a1 w1 ⟨rfl, hI⟩
    refine wp_block (wp_loop_ghost I n0 hI fun n a w hI => ?_)
    refine wp_seq (Code.wp_mono ?_ (hr n a w hI))
    rintro e a2 w2 ⟨rfl, b, hb, ht, hf⟩
    refine wp_seq (wp_cond_split (t := b) hb (fun hb => wp_skip ?_) (fun hb => wp_exit ?_))
    · refine wp_seq (wp_block (Code.wp_mono ?_ (ht hb)))
      rintro e a3 w3 ⟨rfl, h3⟩
      refine Code.wp_mono ?_ h3
      rintro e a4 w4 ⟨rfl, h4⟩
      exact h4
    · show Exit.inBlock i' _ (.exit i') a2 w2
      simp only [Exit.inBlock, if_true]
      exact hf hb
  · cases h
/-- 'x := y'. -/
def chkMv2 (p e N : Nat) : Code → Bool
  | .region _ ops false => match ops.toList with
    | [o1, o2] => match o1.op, o2.op with
      | .move (.tmp p'), .assign (.tmp d') => match o1.dst, o2.dst with
        | some d, some e' => o1.guard.isNone && o2.guard.isNone && p' == p && d' == d && e' == e && Nat.blt d N && Nat.blt e N
        | _, _ => false
      | _, _ => false
    | _ => false
  | _ => false
theorem mv2_item {c : Code} {p e N : Nat} {Q : Exit → Act → World → Prop} {a : Act} {w : World} {v : Value} (h : (chkMv2 p e N c && inS (wrS c) e) = true) (hN : a.tmps.size = N) (hp : a.tmps.getD p undef = v)
    (hv : ∀ a', a'.tmps.size = N → a'.defers = a.defers → Same (inS (wrS c)) a a' → a'.tmps.getD e undef = v → Q .normal a' w) : c.wp Try.prog Q a w := by
  rw [Bool.and_eq_true] at h
  obtain ⟨h, he⟩ := h
  unfold chkMv2 at h
  split at h
  · rename_i id ops
    obtain ⟨l⟩ := ops
    simp only at h
    split at h
    · rename_i o1 o2
      split at h
      · rename_i p' d' k1 k2
        split at h
        · rename_i d e' f1 f2
          simp only [Bool.and_eq_true, beq_iff_eq] at h
          obtain ⟨⟨⟨⟨⟨⟨g1, g2⟩, rfl⟩, rfl⟩, rfl⟩, m1⟩, m2⟩ := h
          have hw : ∀ o ∈ [o1, o2], ∀ s, o.dst = some s → inS (wrS (Code.region id ⟨[o1, o2]⟩ false)) s = true := fun o ho s hs => inS_iff.2 (List.mem_filterMap.2 ⟨o, ho, hs⟩)
          refine wp_region_lit ?_
          refine wpl_move k1 (none_of g1) ?_
          rw [f1, eval_tmp, hp]
          have n1 : d' < a.tmps.size := by rw [hN]; exact blt_iff.1 m1
          refine wpl_assign k2 (none_of g2) ?_
          rw [f2, eval_tmp, fput_get n1, if_pos rfl]
          have n2 : e' < (a.put (some d') v).tmps.size := by rw [fput_size, hN]; exact blt_iff.1 m2
          refine hv _ ?_ rfl ?_ (by rw [fput_get n2, if_pos rfl])
          · rw [fput_size, fput_size, hN]
          · exact ((Same.refl _ a).put fun s e => hw o1 (by simp) s (by rw [f1]; exact e)).put fun s e => hw o2 (by simp) s (by rw [f2]; exact e)
        · cases h
      · cases h
    · cases h
  · cases h
theorem ret_one {fn : Func} {t : Nat} {a : Act} {w : World} {v : Value} (hr : fn.results = #[.tmp t]) (hv : a.tmps.getD t undef = v) : (results fn a.tmps).run Try.prog w = .ok v w := by
  unfold results
  rw [hr]
  subst hv
  simp
/-- A part that ends the function: its result. -/
theorem frag_retV {wB w : World} {n N : Nat} {σ : St} {E : Env} {a : Act} {fn : Func} {L0 : Nat → Prop} {r : RV} (hR : Rel ⟨wB, false, undef, L0, n⟩ N σ E a w) (hk : mRes σ fn.results.toList [r]) (hc : Nat.ble fn.results.toList.length 5 = true) :
    a.defers = [] ∧ ∃ v, (results fn a.tmps).run Try.prog w = .ok v w ∧ r.has wB.heap.size L0 w v := by
  obtain ⟨v, h1, h2, _⟩ := results_run hR hk (Nat.le_of_ble_eq_true hc) (Nat.zero_le _)
  exact ⟨hR.defers, v, h1, h2⟩
theorem Tab.mch {α : Type} {base : Nat} {e e' : TypeId} {sz : Nat} {fl : List α → List Value} {w w' : World} {v : Value} {xs ys : List Value} {rows : List (List α)} (h : Tab base e e' sz fl w v xs rows) (hC : Mch ys w w') (hd : ∀ (i : Nat) (x : Value) b, ys[i]? = some x → x.ownBlock = some b → ¬ TabB v xs b) : Tab base e e' sz fl w' v xs rows :=
  ⟨Mch.own h.outer hC (fun i x b hx hb hv => hd i x b hx hb (.inl hv)), fun i u m hu hm => Mch.own (h.row i u m hu hm) hC (fun j x b hx hb hv => hd j x b hx hb (.inr ⟨i, u, hu, hv⟩)), h.dist⟩
/-- 'y := f(x, ..)', x a variable that is read as a struct. -/
def chkArmCall (ti : TypeId) (f : FuncId) (p : Nat) (srcs : List Nat) (e N : Nat) : Code → Bool
  | .region _ ops false => match ops.toList with
    | ol :: l => match ol.op, ol.dst with
      | .load t1 (.tmp p'), some d1 => ol.guard.isNone && t1 == ti && p' == p && Nat.blt d1 N && !(inS srcs d1) && mvB (d1 :: srcs) N (endB f e N) srcs l [d1]
      | _, _ => false
    | _ => false
  | _ => false
theorem armcall_item {c : Code} {ti : TypeId} {f : FuncId} {p e N b : Nat} {srcs : List Nat} {x1 x2 x3 : Value} {eb : TypeId} {Q : Exit → Act → World → Prop} {a : Act} {w : World} (h : (chkArmCall ti f p srcs e N c && inS (wrS c) e) = true) (hN : a.tmps.size = N) (hen : ∀ args w, (callFunc f args).run Try.prog w = .ok (.enter f args) w)
    (hti : tyOf ti = some (.st [.nil, .nil, .nil])) (hp : a.tmps.getD p undef = .pointer (some ⟨b, 0, none⟩)) (hb : w.heap[b]? = some (.cells #[x1, x2, x3] eb (0, 0)))
    (hcall : Calls Try.prog f (.agg #[x1, x2, x3] :: srcs.map fun s => a.tmps.getD s undef).toArray w fun en w' => ∃ v, en = .returned v ∧ ∀ a', a'.tmps.size = N → a'.defers = a.defers → Same (inS (wrS c)) a a' → a'.tmps.getD e undef = v → Q .normal a' w') : c.wp Try.prog Q a w := by
  rw [Bool.and_eq_true] at h
  obtain ⟨h, he⟩ := h
  unfold chkArmCall at h
  split at h
  · rename_i id ops
    obtain ⟨l⟩ := ops
    simp only at h
    split at h
    · rename_i ol l'
      split at h
      · rename_i t1 p' d1 k1 k2
        simp only [Bool.and_eq_true, beq_iff_eq, Bool.not_eq_true'] at h
        obtain ⟨⟨⟨⟨⟨g1, rfl⟩, rfl⟩, m1⟩, m2⟩, m3⟩ := h
        have hw : ∀ o ∈ ol :: l', ∀ s, o.dst = some s → inS (wrS (Code.region id ⟨ol :: l'⟩ false)) s = true := fun o ho s hs => inS_iff.2 (List.mem_filterMap.2 ⟨o, ho, hs⟩)
        refine wp_region_lit ?_
        refine wpl_load3 k1 (none_of g1) hti hp hb ?_
        rw [k2]
        have n1 : d1 < a.tmps.size := by rw [hN]; exact blt_iff.1 m1
        have hne : ∀ s ∈ srcs, s ≠ d1 := fun s hs e1 => by
          subst e1
          rw [inS_iff.2 hs] at m2; cases m2
        have hsm : Same (inS (wrS (Code.region id ⟨ol :: l'⟩ false))) a (a.put (some d1) (.agg #[x1, x2, x3])) := (Same.refl _ a).put fun s e => hw ol (List.mem_cons_self ..) s (by rw [k2]; exact e)
        have hall : ((d1 :: srcs).map fun s => (a.put (some d1) (.agg #[x1, x2, x3])).tmps.getD s undef) = .agg #[x1, x2, x3] :: srcs.map fun s => a.tmps.getD s undef := by
          rw [List.map_cons, fput_get n1, if_pos rfl]
          congr 1
          exact List.map_congr_left fun s hs => by rw [fput_get n1, if_neg (hne s hs)]
        refine mv_ok (all := d1 :: srcs) (a := a.put (some d1) (.agg #[x1, x2, x3])) (ds := inS (wrS (Code.region id ⟨ol :: l'⟩ false))) hen he ?_ srcs l' [d1] [d1] _ rfl m3 (fun o ho => hw o (List.mem_cons_of_mem _ ho)) (by rw [fput_size, hN]) rfl (Same.refl _ _) rfl (fun _ _ => rfl)
        rw [hall]
        refine hcall.mono ?_
        rintro en w' ⟨v, rfl, hv⟩
        exact ⟨v, rfl, fun a' h1 h2 h3 h4 => hv a' h1 h2 (hsm.trans h3) h4⟩
      · cases h
    · cases h
  · cases h
/-- A contract whose new row is told as a view alone. -/
def viewG (g : List AV → Option Sg) : List AV → Option Sg := fun avs => match g avs with
  | some ⟨n, [.nrow _ c]⟩ => some ⟨n, [.s (.view c)]⟩
  | o => o
theorem cells_less {L L' : Nat → Prop} {w : World} {xs : List Value} {c : Cont} (h : CellsOK L w xs c) (hL : ∀ b, L' b → L b) : CellsOK L' w xs c := by
  cases c <;> simp only [CellsOK] at h ⊢ <;> first
    | exact h
    | exact ⟨h.1, fun i u m h3 h4 => by
        obtain ⟨A, cap, q1, q2, q3, q4, q5⟩ := h.2 i u m h3 h4
        exact ⟨A, cap, q1, q2, q3, q4, fun hn => by obtain ⟨b, off, z1, z2, z3, z4⟩ := q5 hn; exact ⟨b, off, z1, z2, fun hb => z3 (hL b hb), z4⟩⟩⟩
theorem FunOK.view {f : FuncId} {g : List AV → Option Sg} (h : FunOK f g) : FunOK f (viewG g) := by
  intro avs sg hg hn L0 args w hL hA
  unfold viewG at hg
  split at hg
  · rename_i n e c hgs
    injection hg with hg
    subst hg
    refine ⟨(h avs _ hgs hn L0 args w hL hA).1, (h avs _ hgs hn L0 args w hL hA).2.mono ?_⟩
    rintro en w' ⟨v, rfl, ⟨xs, h1, h2⟩, hb⟩
    refine ⟨v, rfl, ⟨xs, Owned.flat h1 (fun b hb' hl => ?_), cells_less h2 (fun b hb => .inl hb)⟩, hb⟩
    have hv : v.ownBlock = some b := by
      rcases h1.2 with ⟨rfl, _⟩ | ⟨g, cap, cur, rfl, _⟩
      · simp [blk] at hb'
      · simpa [Value.ownBlock, blk] using hb'
    have := (h1.lt b hv).1
    have := hL b hl
    omega
  · exact h avs sg hg hn L0 args w hL hA
theorem Tab.base {α : Type} {b1 b2 : Nat} {e e' : TypeId} {sz : Nat} {fl : List α → List Value} {w : World} {v : Value} {xs : List Value} {rows : List (List α)} (h : Tab b1 e e' sz fl w v xs rows) (hb : b2 ≤ b1) : Tab b2 e e' sz fl w v xs rows :=
  ⟨own_base h.outer hb, fun i u m hu hm => own_base (h.row i u m hu hm) hb, h.dist⟩
/-- 'x = nil'. -/
def chkNil (e N : Nat) : Code → Bool
  | .region _ ops false => match ops.toList with
    | [o1] => match o1.op, o1.dst with
      | .assign (.const (.slice none 0 0)), some e' => o1.guard.isNone && e' == e && Nat.blt e N
      | _, _ => false
    | _ => false
  | _ => false
theorem nil_item {c : Code} {e N : Nat} {Q : Exit → Act → World → Prop} {a : Act} {w : World} (h : (chkNil e N c && inS (wrS c) e) = true) (hN : a.tmps.size = N)
    (hv : ∀ a', a'.tmps.size = N → a'.defers = a.defers → Same (inS (wrS c)) a a' → a'.tmps.getD e undef = .slice none 0 0 → Q .normal a' w) : c.wp Try.prog Q a w := by
  rw [Bool.and_eq_true] at h
  obtain ⟨h, he⟩ := h
  unfold chkNil at h
  split at h
  · rename_i id ops
    obtain ⟨l⟩ := ops
    simp only at h
    split at h
    · rename_i o1
      split at h
      · rename_i e' k1 f1
        simp only [Bool.and_eq_true, beq_iff_eq] at h
        obtain ⟨⟨g1, rfl⟩, m1⟩ := h
        have hw : ∀ o ∈ [o1], ∀ s, o.dst = some s → inS (wrS (Code.region id ⟨[o1]⟩ false)) s = true := fun o ho s hs => inS_iff.2 (List.mem_filterMap.2 ⟨o, ho, hs⟩)
        refine wp_region_lit ?_
        refine wpl_assign k1 (none_of g1) ?_
        rw [f1]
        have n1 : e' < a.tmps.size := by rw [hN]; exact blt_iff.1 m1
        refine hv _ (by rw [fput_size, hN]) rfl ((Same.refl _ a).put fun s e => hw o1 (by simp) s (by rw [f1]; exact e)) (by rw [fput_get n1, if_pos rfl]; rfl)
      · cases h
    · cases h
  · cases h
/-! ### Memory of a part's own: rows and variables -/
def bxsB : Nat → List (Bx × Value) → List (Nat × Bx)
  | _, [] => []
  | i, (b, _) :: l => (i, b) :: bxsB (i + 1) l
def EB (L0 : Nat → Prop) (R : List (Bx × Value)) : Env := ⟨fun k => ((R[k - 1]?).map (·.2)).getD undef, fun b => L0 b ∨ ∃ r ∈ R, blk r.2 = some b, none⟩
theorem bxsB_look : ∀ (R : List (Bx × Value)) (i k : Nat) (bx : Bx), lookB (bxsB i R) k = some bx → ∃ j v, k = i + j ∧ R[j]? = some (bx, v)
  | [], i, k, bx, h => by cases h
  | (b, v) :: R, i, k, bx, h => by
    simp only [bxsB, lookB] at h
    split at h
    · rename_i hk
      injection h with h
      exact ⟨0, v, (beq_iff_eq.1 hk).symm, by rw [h]; rfl⟩
    · obtain ⟨j, v', h1, h2⟩ := bxsB_look R (i + 1) k bx h
      exact ⟨j + 1, v', by omega, by simpa using h2⟩
theorem rel_fragB {a : Act} {w0 w : World} {N : Nat} {S : List (Nat × AV)} {R : List (Bx × Value)} {L0 : Nat → Prop} (hL : LtI L0 w0) (hI : GInv w) (hN : a.tmps.size = N) (hd : a.defers = []) (hB : Bel w0 w)
    (hR : ∀ r ∈ R, r.1.ok w0.heap.size (EB L0 R) w r.2) (hid : ∀ r ∈ R, r.1.idsOK (fun j => Nat.blt j (R.length + 1)) = true) (hlt : ∀ r ∈ R, ∀ b, blk r.2 = some b → w0.heap.size ≤ b ∧ b < w.heap.size)
    (hdist : ∀ (i j : Nat) (r r' : Bx × Value) (b : Nat), R[i]? = some r → R[j]? = some r' → blk r.2 = some b → blk r'.2 = some b → i = j)
    (hS : ∀ p ∈ S, p.2.has (EB L0 R) w (a.tmps.getD p.1 undef)) (hf : ∀ p ∈ S, ∀ k, p.2.on k = true → k < R.length + 1) :
    Rel ⟨w0, false, undef, L0, w0.heap.size⟩ N ⟨S, bxsB 1 R, R.length + 1⟩ (EB L0 R) a w := by
  have hhd : ∀ j r, R[j]? = some r → (EB L0 R).hd (1 + j) = r.2 := fun j r hr => by
    show ((R[1 + j - 1]?).map (·.2)).getD undef = _
    rw [Nat.add_sub_cancel_left, hr]; rfl
  refine rel_frag (base := ⟨w0, false, undef, L0, w0.heap.size⟩) hN hd (bel_grown hB) hS hf (fun k bx hk => ?_) ⟨⟨fun b hb => ?_, hI⟩, fun k bx hk => ?_, fun k bx b hk hb => ?_⟩ (fun k k' bx bx' g h1 h2 h3 h4 => ?_) ⟨Nat.le_refl _, hL, fun k bx b hk hb => ?_, fun b hb => .inl hb, (fun h => by cases h), Nat.succ_pos _⟩
  · obtain ⟨j, v, rfl, hj⟩ := bxsB_look R 1 k bx hk
    have := (List.getElem?_eq_some_iff.1 hj).1
    exact ⟨by omega, hid _ (List.mem_of_getElem? hj)⟩
  · rcases hb with hb | ⟨r, hr, hb⟩
    · exact ⟨(hL.lt' b hb).1, Nat.lt_of_lt_of_le (hL.lt' b hb).2 hB.size⟩
    · have := hlt r hr b hb
      exact ⟨Nat.le_trans hL.inv.ng this.1, this.2⟩
  · obtain ⟨j, v, rfl, hj⟩ := bxsB_look R 1 k bx hk
    rw [hhd j _ hj]
    exact hR _ (List.mem_of_getElem? hj)
  · obtain ⟨j, v, rfl, hj⟩ := bxsB_look R 1 k bx hk
    rw [hhd j _ hj] at hb
    exact .inr ⟨_, List.mem_of_getElem? hj, hb⟩
  · obtain ⟨j, v, rfl, hj⟩ := bxsB_look R 1 k bx h1
    obtain ⟨j', v', rfl, hj'⟩ := bxsB_look R 1 k' bx' h2
    rw [hhd j _ hj] at h3
    rw [hhd j' _ hj'] at h4
    rw [hdist j j' _ _ g hj hj' h3 h4]
  · obtain ⟨j, v, rfl, hj⟩ := bxsB_look R 1 k bx hk
    rw [hhd j _ hj] at hb
    exact .inl (hlt _ (List.mem_of_getElem? hj) b hb).1
end Go.Proofs.Ytdpokkegkedlfaa
