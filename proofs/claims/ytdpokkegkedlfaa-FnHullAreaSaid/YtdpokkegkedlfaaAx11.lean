/- Operations that write hold: append, a slice cut short, stores. -/
import Derived.Test.YtdpokkegkedlfaaAx10
namespace Go.Proofs.Ytdpokkegkedlfaa
open Go.RowKit
set_option maxRecDepth 10000
section
variable {sig : FuncId → List AV → Option Sg} {σ : St} {base : Base} {N : Nat} {E : Env} {a : Act} {w : World} {Q : Exit → Act → World → Prop} {K : Act → World → Prop} {p : Prop} {σ' : St}
  (ty : TypeId) (pos : String) (af : Array Edge)
theorem rd_reads {c c2 : Cont} {f : FV} {v : Value} (h : Rel base N σ E a w) (hr : rdCont σ c f = some c2) (hf : f.has E w v) : ∃ ys, Flat (fun _ => False) w v c2.sz c2.len ys ∧ CellsOK E.lv w ys c2 := by
  unfold rdCont at hr
  split at hr
  · injection hr with hr; subst hr
    obtain ⟨ys, h1, h2⟩ := hf
    exact ⟨ys, h1.less (fun _ h => h.elim), h2⟩
  · have hv : v = .slice none 0 0 := hf
    subst hv
    have key : ∀ c2 : Cont, c2.len = 0 → ∃ ys, Flat (fun _ => False) w (.slice none 0 0) c2.sz c2.len ys ∧ CellsOK E.lv w ys c2 := fun c2 h0 =>
      ⟨[], ⟨none, 0, by rw [h0], by omega, by unfold maxLen; omega, by rw [h0]; simp, fun hn => by omega⟩, empty_cells h0⟩
    cases c <;> (simp only at hr; injection hr with hr; subst hr; exact key _ rfl)
  · rename_i j
    have hv : v = E.hd j := hf
    have key : ∀ e c3, lookB σ.b j = some (.row e c3) → ∃ ys, Flat (fun _ => False) w v c3.sz c3.len ys ∧ CellsOK E.lv w ys c3 := fun e c3 hb => by
      obtain ⟨ys, h1, h2⟩ := h.mem.ok j _ hb
      rw [hv]
      exact ⟨ys, Owned.flat h1 (fun _ _ h => h), h2⟩
    split at hr
    all_goals first
      | (cases hr; done)
      | (rename_i e l hb; injection hr with hr; subst hr; exact key _ _ hb)
  · cases hr
theorem append_none {t ty e : TypeId} {i : TypeInfo} {size b : Nat} {v : Value} {n cap : Nat} {xs : List Value} (ht : Try.prog.underlying t = some (.slice e)) (hi : Try.prog.info? e = some i) (hown : w.ownsRow b e size v n xs) :
    (Builtin.append_ #[t, t] ty #[v, .slice none 0 cap]).run Try.prog w = .ok v w := by
  rcases hown.2 with ⟨rfl, rfl⟩ | ⟨g, cap, cur, rfl, _, _, hnc, _⟩
  · simp [Builtin.append_, run_underlying ht, sizeOf, typeInfo, hi, Builtin.lenOf, Builtin.firstCells]
  · simp [Builtin.append_, run_underlying ht, sizeOf, typeInfo, hi, Builtin.lenOf, Builtin.firstCells, hnc, storeCells]
/-- What append hands back lies where the slice lay, or in a new block. -/
theorem append_blk {t ty e : TypeId} {i : TypeInfo} {z v v' : Value} {b n m c : Nat} {xs news : List Value} {ad : Addr} {w' : World} (ht : Try.prog.underlying t = some (.slice e)) (hi : Try.prog.info? e = some i) (hz : i.zero = some z)
    (hown : w.ownsRow b e i.size v n xs) (hl : news.length = m * i.size) (hnews : ∀ j u, news[j]? = some u → w.cell? (ad.add j) = some u) (h1 : ∀ u ∈ news, u.oneCell' = true) (hsz : 0 < i.size)
    (h63 : n + m ≤ maxLen) (hbytes : (n + m) * i.bytes ≤ 140737488355328) (hr : (Builtin.append_ #[t, t] ty #[v, .slice (some ad) m c]).run Try.prog w = .ok v' w') (hnil : v' = .slice none 0 0 ↔ v = .slice none 0 0 ∧ m = 0) :
    ∀ g, blk v' = some g → blk v = some g ∨ w.heap.size ≤ g := by
  intro g hg
  have hsmall : n + m ≤ 9223372036854775807 := by simp only [maxLen] at h63; omega
  rcases hown.2 with ⟨rfl, rfl⟩ | ⟨g', cap, cur, rfl, hbg, hgg, hnc, hcm, hcs, htake⟩
  · by_cases hm : m = 0
    · rw [hnil.2 ⟨rfl, hm⟩] at hg; cases hg
    · have hr2 := run_append_nil (P := Try.prog) w t ty e i z ht hi hz ad m c news hl hnews (by omega) (by omega) (by have hb := hbytes; simp only [Nat.zero_add] at hb; omega)
      rw [hr] at hr2
      injection hr2 with hv _
      subst hv
      simp only [blk, Option.some.injEq] at hg
      exact .inr (by omega)
  · by_cases hroom : n + m ≤ cap
    · have hfit : n * i.size + news.length ≤ cur.size := by rw [hl, hcs, ← Nat.add_mul]; exact Nat.mul_le_mul_right _ hroom
      have hr2 := run_append_room (P := Try.prog) w t ty e i ht hi g' n cap cur hgg ad m c news hl hnews h1 hroom hfit
      rw [hr] at hr2
      injection hr2 with hv _
      subst hv
      exact .inl hg
    · have holds : ∀ j u, xs[j]? = some u → w.cell? ((⟨g', 0, none⟩ : Addr).add j) = some u := hown.cells (g := g') rfl
      have hr2 := run_append_grow (P := Try.prog) w t ty e i z ht hi hz ⟨g', 0, none⟩ n cap xs hown.1 holds ad m c news hl hnews (by omega) (by omega) (growslice_fits (by omega) hbytes)
      rw [hr] at hr2
      injection hr2 with hv _
      subst hv
      simp only [blk, Option.some.injEq] at hg
      exact .inr (by omega)
theorem mAppend_ok {d : Nat} {t t' : TypeId} {x y : Operand} (h : Rel base N σ E a w) (hd : d < N) (hm : mAppend σ d t (gS σ x) (gS σ y) = some (p, σ')) (hp : p) (hK : ∀ E' a' w', Rel base N σ' E' a' w' → K a' w') (htt : t' = t) :
    Oper.wp Try.prog ⟨some d, .call ⟨.builtin .append, #[x, y], #[t, t']⟩, ty, pos, af, none⟩ a w K Q := by
  subst htt
  have hx := gS_has h x
  have hy := gS_has h y
  generalize gS σ x = gx at *
  generalize gS σ y = gy at *
  unfold mAppend at hm
  split at hm
  · rename_i j
    split at hm
    · rename_i e c e' c0 hb ht
      split at hm
      · rename_i hk
        simp only [Bool.and_eq_true, beq_iff_eq] at hk
        obtain ⟨⟨rfl, hsz⟩, hj0⟩ := hk
        split at hm
        · rename_i c2 hc2
          split at hm
          · rename_i c' hc'
            injection hm with hm; injection hm with h1 h2; subst h1 h2
            have b1 := hp.1.out
            have b2 := hp.2.out
            rw [Cont.ilen_eq] at b1 b2
            obtain ⟨hu, _, i, z, hi, hs, hby, hz, hzs, _⟩ := ty_sl ht
            obtain ⟨ys, hF, hC2⟩ := rd_reads h hc2 hy
            obtain ⟨xs, hown, hC1⟩ := h.mem.ok j _ hb
            obtain ⟨q1, q2, q3, q4⟩ := cells_app hC1 hC2 hc'
            have ex : a.eval x = E.hd j := hx
            have hv' : ∀ v w', w'.ownsRow base.bn e c.sz v (c.len + c2.len) (xs ++ ys) → w.grownBy w' (blk (E.hd j)) → (∀ b, blk v = some b → blk (E.hd j) = some b ∨ w.heap.size ≤ b) → K (a.put (some d) v) w' := by
              intro v w' ho hg hfr
              have hlv : ∀ g, blk (E.hd j) = some g → E.lv g := fun g hg => h.mem.lv j _ g hb hg
              have hev : Evo E (E.new j v) w w' := ⟨hg.size, fun b hb' hn => hg.block b hb' (fun e => hn (hlv b e.symm)), fun b hb' hl => by
                rcases hl with hl | hl
                · exact hl
                · rcases hfr b hl with h1 | h1
                  · exact hlv b h1
                  · omega, fun _ h => h⟩
              have hR := Rel.turn (blt_iff.1 hj0) h (bx := .row e c') hb hg hfr ⟨xs ++ ys, by rw [q2, q3]; exact ho, q1.evo hev⟩ (fun l hl => by cases hl)
              refine hK _ _ _ (hR.put hd ?_ ?_)
              · show _ = _
                exact (new_hd_self j v).symm
              · intro k hk
                have : j = k := by simpa [AV.on, SV.on] using hk
                subst this
                exact (h.bids j _ hb).1
            obtain ⟨A, cap, ey, hncap, hcapm, hlen, hcell⟩ := hF
            have hbytes : (c.len + c2.len) * i.bytes ≤ 140737488355328 := Nat.le_trans (Nat.mul_le_mul_left _ hby) (by omega)
            have hown_blk : ∀ v : Value, v.ownBlock = blk v ∨ ∀ A n c, v ≠ .slice A n c := by
              intro v
              cases v with
              | slice A n c => cases A <;> exact .inl rfl
              | _ => exact .inr (by intro _ _ _ h; cases h)
            have hob : (E.hd j).ownBlock = blk (E.hd j) := by
              rcases hown.2 with ⟨e1, _⟩ | ⟨g, cap', cur, e1, _⟩ <;> rw [e1] <;> rfl
            cases A with
            | none =>
              have h0 : c2.len = 0 := by
                rcases Nat.eq_zero_or_pos c2.len with h0 | h0
                · exact h0
                · obtain ⟨b, off, e1, _⟩ := hcell h0; cases e1
              have hys : ys = [] := List.eq_nil_of_length_eq_zero (by rw [hlen, h0]; simp)
              subst hys
              rw [h0] at ey
              have hrun := append_none (cap := cap) (ty := ty) hu hi hown
              refine wp_run (w' := w) (v := E.hd j) ?_ (hv' _ _ (by rw [h0, List.append_nil]; exact hown) ⟨rfl, rfl, rfl, Nat.le_refl _, fun _ _ _ => rfl⟩ (fun b hb => .inl hb))
              unfold execOp
              generalize a.eval = ρ at *
              simp [resolve, invoke, builtin, ex, ey, hrun]
            | some ad =>
              have hspot : ∀ k u, ys[k]? = some u → w.cell? (ad.add k) = some u := by
                intro k u hu
                have hk : k < ys.length := (List.getElem?_eq_some_iff.1 hu).1
                have h0 : 0 < c2.len := by
                  rcases Nat.eq_zero_or_pos c2.len with h0 | h0
                  · rw [hlen, h0] at hk; simp at hk
                  · exact h0
                obtain ⟨b, off, e1, _, _, hc⟩ := hcell h0
                injection e1 with e1; subst e1
                rw [Addr.add_mid]; exact hc k u hu
              obtain ⟨v', w', hr, h2, h3, h4⟩ := run_append_own (P := Try.prog) w base.bn t' ty e i z c.sz i.bytes hu hi hz (by rw [hs, hsz]) rfl (by rw [hzs, hsz]) (by cases c <;> simp [Cont.sz]) (E.hd j) c.len xs hown ad c2.len cap ys (by rw [hlen, q4]) hspot (cells_one hC2) (by unfold maxLen; omega) hbytes h.lo
              refine wp_run (w' := w') (v := v') ?_ (hv' v' w' h2 (by rw [← hob]; exact h3) ?_)
              · unfold execOp
                generalize a.eval = ρ at *
                simp [resolve, invoke, builtin, ex, ey, hr]
              · have hsz' : i.size = c.sz := by rw [hs, hsz]
                exact append_blk hu hi hz (by rw [hsz']; exact hown) (by rw [hlen, q4, hsz']) hspot (cells_one hC2) (by rw [hsz']; cases c <;> simp [Cont.sz]) (by unfold maxLen; omega) hbytes hr h4
          · cases hm
        · cases hm
      · cases hm
    · cases hm
  · cases hm
theorem mCut_ok {d : Nat} {t : TypeId} {x y : Operand} (h : Rel base N σ E a w) (hd : d < N) (hm : mCut σ d t (gS σ x) (gS σ y) = some (p, σ')) (hp : p) (hK : ∀ E' a' w', Rel base N σ' E' a' w' → K a' w') :
    Oper.wp Try.prog ⟨some d, .slice t x none (some y) none, ty, pos, af, none⟩ a w K Q := by
  have hx := gS_has h x
  have hy := gS_has h y
  generalize gS σ x = gx at *
  generalize gS σ y = gy at *
  unfold mCut at hm
  split at hm
  · rename_i j i
    split at hm
    · rename_i e c e' c0 hb ht
      split at hm
      · rename_i hk
        simp only [Bool.and_eq_true, beq_iff_eq] at hk
        obtain ⟨hsz, hj0⟩ := hk
        injection hm with hm; injection hm with h1 h2; subst h1 h2
        have i0 := hp.1.out
        have i1 := hp.2.out
        rw [Cont.ilen_eq] at i1
        have ex : a.eval x = E.hd j := hx
        have ey : a.eval y = .int .i64 i := hy
        obtain ⟨hu, _, inf, z, hinf, hisz, _⟩ := ty_sl ht
        obtain ⟨xs, hown, hC⟩ := h.mem.ok j _ hb
        obtain ⟨q1, q2, q3⟩ := cells_cut hC i0 i1
        have fin : ∀ v, blk v = blk (E.hd j) → w.ownsRow base.bn e c.sz v i.toNat (xs.take (i.toNat * c.sz)) → K (a.put (some d) v) w := by
          intro v hbv ho
          have hlv : ∀ g, blk (E.hd j) = some g → E.lv g := fun g hg => h.mem.lv j _ g hb hg
          have hev : Evo E (E.new j v) w w := ⟨Nat.le_refl _, fun _ _ _ => rfl, fun b _ hl => by
            rcases hl with hl | hl
            · exact hl
            · rw [hbv] at hl; exact hlv b hl, fun _ h => h⟩
          have hR := Rel.turn (blt_iff.1 hj0) h (w' := w) (v := v) (bx := .row e (c.cut i)) hb ⟨rfl, rfl, rfl, Nat.le_refl _, fun _ _ _ => rfl⟩ (fun b hb' => .inl (by rw [← hbv]; exact hb')) ⟨xs.take (i.toNat * c.sz), by rw [q1, q2]; exact ho, q3.evo hev⟩ (fun l hl => by cases hl)
          refine hK _ _ _ (hR.put hd ?_ ?_)
          · show _ = _
            exact (new_hd_self j v).symm
          · intro k hk
            have : j = k := by simpa [AV.on, SV.on] using hk
            subst this
            exact (h.bids j _ hb).1
        rcases hown.2 with ⟨e1, hz⟩ | ⟨g, cap, cur, e1, hbg, hgg, hnc, hcm, hcs, htake⟩
        · have hi0 : i = 0 := by omega
          subst hi0
          refine wp_run (w' := w) (v := .slice none 0 0) ?_ (fin _ (by rw [e1]) ⟨by simp, .inl ⟨rfl, rfl⟩⟩)
          unfold execOp
          generalize a.eval = ρ at *
          rw [e1] at ex
          simp [ex, ey, Instr.sliceAt, Instr.slice, run_underlying hu, Instr.sliceBounds, Instr.sliceBound, asIntOf, sizeOf, typeInfo, hinf]
        · refine wp_run (w' := w) (v := .slice (some ⟨g, 0, none⟩) i.toNat cap) ?_ (fin _ (by rw [e1]; rfl) ⟨?_, .inr ⟨g, cap, cur, rfl, hbg, hgg, by omega, hcm, hcs, ?_⟩⟩)
          · unfold execOp
            generalize a.eval = ρ at *
            rw [e1] at ex
            have hcap : i ≤ (cap : Int) := by omega
            simp [ex, ey, Instr.sliceAt, Instr.slice, run_underlying hu, Instr.sliceBounds, Instr.sliceBound, asIntOf, i0, hcap, sizeOf, typeInfo, hinf, Addr.add]
          · rw [List.length_take, hown.1]
            exact Nat.min_eq_left (Nat.mul_le_mul_right _ (by omega))
          · rw [← htake, List.take_take]
            congr 1
            exact (Nat.min_eq_left (Nat.mul_le_mul_right _ (by omega))).symm
      · cases hm
    · cases hm
  · cases hm
theorem run_storeAt_one {t : TypeId} {tt : Ty} (ht : tyOf t = some tt) (h1 : tt.one = true) {g o : Nat} {v : Value} (hc : (w.cell? ⟨g, o, none⟩).isSome = true) (hf : w.frozen? ⟨g, o, none⟩ = false) (hv : v.oneCell' = true) :
    (Instr.storeAt t (.pointer (some ⟨g, o, none⟩)) v).run Try.prog w = .ok () (w.setCell ⟨g, o, none⟩ v) := by
  obtain ⟨_, hi⟩ := ty_one ht h1
  have hcells := one_cells hv
  have hone : ∀ j, j < [v].length → j = 0 := fun j hj => by simpa using hj
  have := run_storeCells_cells (P := Try.prog) g o [v] 0 w (fun j hj => by rw [hone j hj]; simpa using hc) (fun j hj => by rw [hone j hj]; simpa using hf) (by simpa using hv)
  cases hq : Try.prog.info? t with
  | none => simp [hq] at hi
  | some i =>
    have hs : i.size = 1 := by simpa [hq] using hi
    simp only [Nat.add_zero, World.setCells] at this
    simp [Instr.storeAt, Instr.sureAddr, storeVar, sizeOf, typeInfo, hq, hs, hcells, this]
theorem setCells_heap {g : Nat} {e : TypeId} : ∀ (vs : List Value) (o : Nat) (w : World) (cur : Array Value), w.heap[g]? = some (.cells cur e (0, 0)) →
    ∃ cur' : Array Value, (w.setCells g o vs).heap[g]? = some (.cells cur' e (0, 0)) ∧ cur'.size = cur.size ∧ (∀ j, j < o ∨ o + vs.length ≤ j → cur'[j]? = cur[j]?) ∧ (∀ j, j < vs.length → o + j < cur.size → cur'[o + j]? = vs[j]?) ∧ w.grownBy (w.setCells g o vs) (some g)
  | [], o, w, cur, h => ⟨cur, h, rfl, fun _ _ => rfl, fun j hj => by simp at hj, ⟨rfl, rfl, rfl, Nat.le_refl _, fun _ _ _ => rfl⟩⟩
  | v :: vs, o, w, cur, h => by
    have h1 : (w.setCell ⟨g, o, none⟩ v).heap[g]? = some (.cells (cur.setIfInBounds o v) e (0, 0)) := heap_setCell_same w g o cur e v h
    obtain ⟨cur', h2, h3, h4, h5, h6⟩ := setCells_heap vs (o + 1) _ _ h1
    have h0 : w.grownBy (w.setCell ⟨g, o, none⟩ v) (some g) := ⟨rfl, rfl, rfl, by simp [World.setCell], fun k _ hne => Below.heap_setCell w ⟨g, o, none⟩ v k (fun e => hne (by rw [e]))⟩
    refine ⟨cur', h2, by rw [h3]; simp, fun j hj => ?_, fun j hj hs => ?_, ⟨h6.os.trans h0.os, h6.tape.trans h0.tape, h6.output.trans h0.output, Nat.le_trans h0.size h6.size, fun k hk hne => (h6.block k (Nat.lt_of_lt_of_le hk h0.size) hne).trans (h0.block k hk hne)⟩⟩
    · rw [h4 j (by simp at hj; omega), Array.getElem?_setIfInBounds_ne (by simp at hj; omega)]
    · cases j with
      | zero =>
        rw [h4 (o + 0) (by omega)]
        simp at hs
        simp [hs]
      | succ j =>
        have := h5 j (by simpa using hj) (by simp; omega)
        rw [show o + (j + 1) = o + 1 + j by omega, this]
        simp
theorem cells_put {L : Nat → Prop} {xs : List Value} {c c' : Cont} {i : Int} {o : Nat} {s : SV} {u : Value} (hC : CellsOK E.lv w xs c) (hl : xs.length = c.len * c.sz) (h0 : 0 ≤ i) (h1 : i < c.len) (h : c.put i o s = some c') (hu : s.has E w u) :
    CellsOK E.lv w (xs.set (i.toNat * c.sz + o) u) c' ∧ c'.len = c.len ∧ c'.sz = c.sz ∧ u.oneCell' = true := by
  have nest : ∀ {α : Type} (l : List (List α)) (m : List α) (sz : Nat) (f : List α → List Value) (ys : List Value), xs.length = l.length → (∀ (k : Nat) v n, xs[k]? = some v → l[k]? = some n → Flat E.lv w v sz n.length (f n)) → Flat E.lv w u sz m.length (f m) → i.toNat < l.length →
      (xs.set (i.toNat * 1 + 0) u).length = (setl l i m).length ∧ ∀ (k : Nat) v n, (xs.set (i.toNat * 1 + 0) u)[k]? = some v → (setl l i m)[k]? = some n → Flat E.lv w v sz n.length (f n) := by
    intro α l m sz f ys e1 e2 e3 e4
    unfold setl
    refine ⟨by simp [e1], fun k v n hv hn => ?_⟩
    rw [show i.toNat * 1 + 0 = i.toNat by omega] at hv
    rw [List.getElem?_set] at hv hn
    by_cases hk : i.toNat = k
    · rw [if_pos hk] at hv hn
      rw [if_pos (by omega)] at hv hn
      injection hv with hv; injection hn with hn; subst hv hn; exact e3
    · rw [if_neg hk] at hv hn; exact e2 k v n hv hn
  unfold Cont.put at h
  split at h
  · injection h with h; subst h
    simp only [CellsOK, Cont.len, Cont.sz] at *
    subst hC
    have hu' : u = .int .i64 _ := hu
    subst hu'
    refine ⟨?_, by simp [seti], trivial, rfl⟩
    simp [seti, List.map_set]
  · rename_i l x
    injection h with h; subst h
    simp only [CellsOK, Cont.len, Cont.sz] at *
    have hu' : u = .int .i64 x := hu
    subst hu'
    subst hC
    refine ⟨?_, by simp [setx], trivial, rfl⟩
    have hil : i.toNat < l.length := by omega
    apply List.ext_getElem?
    intro k
    rw [List.getElem?_set]
    have hxl := ptCells_x l i.toNat hil
    by_cases hk : i.toNat * 2 + 0 = k
    · rw [if_pos hk, if_pos (by rw [ptCells_length]; omega)]
      have := ptCells_x (setx l i x) i.toNat (by simpa [setx] using hil)
      rw [← hk, Nat.add_zero, this.1]
      simp [setx, hil]
    · rw [if_neg hk]
      by_cases hkl : k < l.length * 2
      · have q := ptCells_x l (k / 2) (by omega)
        have q' := ptCells_x (setx l i x) (k / 2) (by simp [setx]; omega)
        have hkk : k = k / 2 * 2 ∨ k = k / 2 * 2 + 1 := by omega
        rcases hkk with e | e
        · rw [e, q.1, q'.1]
          have hne : i.toNat ≠ k / 2 := by omega
          simp [setx, List.getElem_set, hne]
        · rw [e, q.2, q'.2]
          simp only [setx, List.getElem_set]
          split
          · rename_i he; simp [← he, List.getD_eq_getElem?_getD, hil]
          · rfl
      · rw [List.getElem?_eq_none (by rw [ptCells_length]; omega), List.getElem?_eq_none (by rw [ptCells_length]; simp [setx]; omega)]
  · rename_i l x
    injection h with h; subst h
    simp only [CellsOK, Cont.len, Cont.sz] at *
    have hu' : u = .int .i64 x := hu
    subst hu'
    subst hC
    refine ⟨?_, by simp [sety], trivial, rfl⟩
    have hil : i.toNat < l.length := by omega
    apply List.ext_getElem?
    intro k
    rw [List.getElem?_set]
    by_cases hk : i.toNat * 2 + 1 = k
    · rw [if_pos hk, if_pos (by rw [ptCells_length]; omega)]
      have := ptCells_x (sety l i x) i.toNat (by simpa [sety] using hil)
      rw [← hk, this.2]
      simp [sety, hil]
    · rw [if_neg hk]
      by_cases hkl : k < l.length * 2
      · have q := ptCells_x l (k / 2) (by omega)
        have q' := ptCells_x (sety l i x) (k / 2) (by simp [sety]; omega)
        have hkk : k = k / 2 * 2 ∨ k = k / 2 * 2 + 1 := by omega
        rcases hkk with e | e
        · rw [e, q.1, q'.1]
          simp only [sety, List.getElem_set]
          split
          · rename_i he; simp [← he, List.getD_eq_getElem?_getD, hil]
          · rfl
        · rw [e, q.2, q'.2]
          have hne : i.toNat ≠ k / 2 := by omega
          simp [sety, List.getElem_set, hne]
      · rw [List.getElem?_eq_none (by rw [ptCells_length]; omega), List.getElem?_eq_none (by rw [ptCells_length]; simp [sety]; omega)]
  · injection h with h; subst h
    simp only [CellsOK, Cont.len, Cont.sz] at *
    subst hC
    have hu' : u = .bool _ := hu
    subst hu'
    refine ⟨?_, by simp [setb], trivial, rfl⟩
    simp [setb, List.map_set]
  · rename_i l m
    injection h with h; subst h
    have ho := (reads_form (c := .ints m) hu)
    obtain ⟨A, cap, ho⟩ := ho
    simp only [CellsOK, Cont.len, Cont.sz] at *
    exact ⟨nest l m 1 (fun n => n.map (Value.int .i64)) [] hC.1 hC.2 (reads_flat (c := .ints m) hu 1 _ rfl rfl fun ys hy => hy) (by omega), by simp [setl], trivial, by rw [ho]; rfl⟩
  · rename_i l m
    injection h with h; subst h
    have ho := (reads_form (c := .pts m) hu)
    obtain ⟨A, cap, ho⟩ := ho
    simp only [CellsOK, Cont.len, Cont.sz] at *
    exact ⟨nest l m 2 ptCells [] hC.1 hC.2 (reads_flat (c := .pts m) hu 2 _ rfl rfl fun ys hy => hy) (by omega), by simp [setl], trivial, by rw [ho]; rfl⟩
  · rename_i l m
    injection h with h; subst h
    have ho := (reads_form (c := .bools m) hu)
    obtain ⟨A, cap, ho⟩ := ho
    simp only [CellsOK, Cont.len, Cont.sz] at *
    exact ⟨nest l m 1 (fun n => n.map Value.bool) [] hC.1 hC.2 (reads_flat (c := .bools m) hu 1 _ rfl rfl fun ys hy => hy) (by omega), by simp [setl], trivial, by rw [ho]; rfl⟩
  · cases h
end
end Go.Proofs.Ytdpokkegkedlfaa
