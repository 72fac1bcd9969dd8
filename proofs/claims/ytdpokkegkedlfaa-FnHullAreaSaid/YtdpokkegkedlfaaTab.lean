/- Tables of rows that a call made itself: every row owned, no two in one block. -/
import Derived.Test.YtdpokkegkedlfaaAxO
import Derived.Laws.AppendOwn
import Derived.Deep.RegionLaw
set_option maxRecDepth 100000
namespace Go.Proofs.Ytdpokkegkedlfaa
open Go.RowKit
/-- A row's own facts. -/
structure Tab {α : Type} (base : Nat) (e e' : TypeId) (sz : Nat) (fl : List α → List Value) (w : World) (v : Value) (xs : List Value) (rows : List (List α)) : Prop where
  outer : w.ownsRow base e 1 v rows.length xs
  row : ∀ (i : Nat) (u : Value) (m : List α), xs[i]? = some u → rows[i]? = some m → w.ownsRow base e' sz u m.length (fl m)
  dist : ∀ (i j : Nat) (u u' : Value) (b : Nat), xs[i]? = some u → xs[j]? = some u' → u.ownBlock = some b → u'.ownBlock = some b → i = j
/-- Blocks of a table. -/
def TabB (v : Value) (xs : List Value) (b : Nat) : Prop := v.ownBlock = some b ∨ ∃ (i : Nat) (u : Value), xs[i]? = some u ∧ u.ownBlock = some b
theorem own_type {w : World} {base : Nat} {e : TypeId} {sz : Nat} {v : Value} {n : Nat} {xs : List Value} (h : w.ownsRow base e sz v n xs) {b : Nat} (hb : v.ownBlock = some b) : ∃ cur, w.heap[b]? = some (.cells cur e (0, 0)) := by
  rcases h.2 with ⟨rfl, _⟩ | ⟨g, cap, cur, rfl, _, hg, _⟩
  · simp [Value.ownBlock] at hb
  · simp only [Value.ownBlock, Option.some.injEq] at hb; subst hb; exact ⟨cur, hg⟩
theorem own_apart {w : World} {b1 b2 : Nat} {e e' : TypeId} {s1 s2 : Nat} {v v' : Value} {n n' : Nat} {xs xs' : List Value} (hne : e ≠ e') (h : w.ownsRow b1 e s1 v n xs) (h' : w.ownsRow b2 e' s2 v' n' xs') (b : Nat) (hb : v.ownBlock = some b) (hb' : v'.ownBlock = some b) : False := by
  obtain ⟨c1, q1⟩ := own_type h hb
  obtain ⟨c2, q2⟩ := own_type h' hb'
  rw [q1] at q2
  injection q2 with q2; injection q2 with _ q3 _
  exact hne q3
section
variable {α : Type} {base : Nat} {e e' : TypeId} {sz : Nat} {fl : List α → List Value} {w w' : World} {v : Value} {xs : List Value} {rows : List (List α)}
theorem Tab.len (h : Tab base e e' sz fl w v xs rows) : xs.length = rows.length := by have := h.outer.1; omega
theorem Tab.rowsAt (h : Tab base e e' sz fl w v xs rows) {i : Nat} {u : Value} (hu : xs[i]? = some u) : ∃ m, rows[i]? = some m ∧ w.ownsRow base e' sz u m.length (fl m) := by
  have hl := h.len
  have hi : i < xs.length := (List.getElem?_eq_some_iff.1 hu).1
  exact ⟨rows[i]'(by omega), List.getElem?_eq_getElem _, h.row i u _ hu (List.getElem?_eq_getElem _)⟩
theorem Tab.lt (h : Tab base e e' sz fl w v xs rows) (b : Nat) (hb : TabB v xs b) : base ≤ b ∧ b < w.heap.size := by
  rcases hb with hb | ⟨i, u, hu, hb⟩
  · exact h.outer.lt b hb
  · obtain ⟨m, _, ho⟩ := h.rowsAt hu
    exact ho.lt b hb
theorem Tab.apart (hne : e ≠ e') (h : Tab base e e' sz fl w v xs rows) {i : Nat} {u : Value} {b : Nat} (hu : xs[i]? = some u) (hb : u.ownBlock = some b) : v.ownBlock ≠ some b := fun hv => by
  obtain ⟨m, _, ho⟩ := h.rowsAt hu
  exact own_apart hne h.outer ho b hv hb
theorem none_or {o p : Option Nat} (h : ∀ b, p = some b → o ≠ some b) : o = none ∨ o ≠ p := by
  cases o with
  | none => exact .inl rfl
  | some b => exact .inr fun hp => h b hp.symm rfl
theorem Tab.kept {r : Option Nat} (h : Tab base e e' sz fl w v xs rows) (hg : w.grownBy w' r) (hr : ∀ b, r = some b → ¬ TabB v xs b) : Tab base e e' sz fl w' v xs rows :=
  ⟨h.outer.kept hg (none_or fun b hb hv => hr b hb (.inl hv)), fun i u m hu hm => (h.row i u m hu hm).kept hg (none_or fun b hb hv => hr b hb (.inr ⟨i, u, hu, hv⟩)), h.dist⟩
theorem Tab.bel (h : Tab base e e' sz fl w v xs rows) (hb : Bel w w') : Tab base e e' sz fl w' v xs rows := h.kept (bel_grown hb) (fun b hb => by cases hb)
theorem Tab.nil (w : World) : Tab base e e' sz fl w (.slice none 0 0) [] ([] : List (List α)) :=
  ⟨World.ownsRow_nil .., fun i u m h => by simp at h, fun i j u u' b h => by simp at h⟩
/-- A row put behind the others. -/
theorem Tab.push {v' u : Value} {m : List α} (hne : e ≠ e') (h : Tab base e e' sz fl w v xs rows) (hu : w.ownsRow base e' sz u m.length (fl m)) (hd : ∀ b, u.ownBlock = some b → ¬ TabB v xs b)
    (ho : w'.ownsRow base e 1 v' (rows.length + 1) (xs ++ [u])) (hg : w.grownBy w' v.ownBlock) : Tab base e e' sz fl w' v' (xs ++ [u]) (rows ++ [m]) := by
  have hl := h.len
  refine ⟨by rw [List.length_append, List.length_singleton]; exact ho, fun i a c ha hc => ?_, fun i j a a' b ha ha' hb hb' => ?_⟩
  · rw [List.getElem?_append] at ha hc
    split at ha
    · rename_i hi
      rw [if_pos (by omega)] at hc
      exact (h.row i a c ha hc).kept hg (none_or fun b hb hv => h.apart hne ha hv hb)
    · rename_i hi
      rw [if_neg (by omega)] at hc
      have h0 : i - xs.length = 0 := by
        rcases Nat.eq_zero_or_pos (i - xs.length) with h0 | h0
        · exact h0
        · rw [List.getElem?_eq_none (by simp; omega)] at ha; cases ha
      rw [h0] at ha
      rw [show i - rows.length = 0 by omega] at hc
      simp only [List.getElem?_cons_zero, Option.some.injEq] at ha hc
      subst ha hc
      exact hu.kept hg (none_or fun b hb hv => hd b hv (.inl hb))
  · have key : ∀ (i : Nat) (a : Value), (xs ++ [u])[i]? = some a → (i < xs.length ∧ xs[i]? = some a) ∨ (i = xs.length ∧ a = u) := by
      intro i a ha
      rw [List.getElem?_append] at ha
      split at ha
      · rename_i hi; exact .inl ⟨hi, ha⟩
      · rename_i hi
        have h0 : i - xs.length = 0 := by
          rcases Nat.eq_zero_or_pos (i - xs.length) with h0 | h0
          · exact h0
          · rw [List.getElem?_eq_none (by simp; omega)] at ha; cases ha
        rw [h0] at ha
        simp only [List.getElem?_cons_zero, Option.some.injEq] at ha
        exact .inr ⟨by omega, ha.symm⟩
    rcases key i a ha with ⟨_, q1⟩ | ⟨q1, rfl⟩ <;> rcases key j a' ha' with ⟨_, q2⟩ | ⟨q2, rfl⟩
    · exact h.dist i j a a' b q1 q2 hb hb'
    · exact (hd b hb' (.inr ⟨i, a, q1, hb⟩)).elim
    · exact (hd b hb (.inr ⟨j, a', q2, hb'⟩)).elim
    · omega
/-- One row written. -/
theorem Tab.write {i : Nat} {u : Value} {m' : List α} (hne : e ≠ e') (h : Tab base e e' sz fl w v xs rows) (hu : xs[i]? = some u) (hg : w.grownBy w' u.ownBlock) (ho : w'.ownsRow base e' sz u m'.length (fl m')) : Tab base e e' sz fl w' v xs (rows.set i m') := by
  refine ⟨by rw [List.length_set]; exact h.outer.kept hg (none_or fun b hb hv => h.apart hne hu hb hv), fun j a c ha hc => ?_, h.dist⟩
  rw [List.getElem?_set] at hc
  by_cases hij : i = j
  · subst hij
    rw [hu] at ha; injection ha with ha; subst ha
    rw [if_pos rfl] at hc
    split at hc
    · injection hc with hc; subst hc; exact ho
    · cases hc
  · rw [if_neg hij] at hc
    exact (h.row j a c ha hc).kept hg (none_or fun b hb hv => hij (h.dist i j u a b hu ha hb hv))
/-- One row put in its place. -/
theorem Tab.put {g n cap i : Nat} {u : Value} {m : List α} (hne : e ≠ e') (h : Tab base e e' sz fl w (.slice (some ⟨g, 0, none⟩) n cap) xs rows) (hn : rows.length = n) (hi : i < n) (hu : w.ownsRow base e' sz u m.length (fl m)) (hd : ∀ b, u.ownBlock = some b → ¬ TabB (.slice (some ⟨g, 0, none⟩) n cap) xs b) :
    Tab base e e' sz fl (w.setCell ⟨g, i, none⟩ u) (.slice (some ⟨g, 0, none⟩) n cap) (xs.set i u) (rows.set i m) ∧ w.grownBy (w.setCell ⟨g, i, none⟩ u) (some g) := by
  subst hn
  have hl := h.len
  obtain ⟨s1, s2⟩ := h.outer.stored i u
  refine ⟨⟨by rw [List.length_set]; exact s1, fun j a c ha hc => ?_, fun j k a a' b ha ha' hb hb' => ?_⟩, s2⟩
  · rw [List.getElem?_set] at ha hc
    by_cases hij : i = j
    · subst hij
      rw [if_pos rfl, if_pos (by omega)] at ha hc
      injection ha with ha; injection hc with hc; subst ha hc
      exact hu.kept s2 (none_or fun b hb hv => hd b hv (.inl hb))
    · rw [if_neg hij] at ha hc
      exact (h.row j a c ha hc).kept s2 (none_or fun b hb hv => h.apart hne ha hv hb)
  · have key : ∀ (j : Nat) (a : Value), (xs.set i u)[j]? = some a → (j ≠ i ∧ xs[j]? = some a) ∨ (j = i ∧ a = u) := by
      intro j a ha
      rw [List.getElem?_set] at ha
      by_cases hij : i = j
      · subst hij; rw [if_pos rfl, if_pos (by omega)] at ha; injection ha with ha; exact .inr ⟨rfl, ha.symm⟩
      · rw [if_neg hij] at ha; exact .inl ⟨fun h => hij h.symm, ha⟩
    rcases key j a ha with ⟨_, q1⟩ | ⟨q1, rfl⟩ <;> rcases key k a' ha' with ⟨_, q2⟩ | ⟨q2, rfl⟩
    · exact h.dist j k a a' b q1 q2 hb hb'
    · exact (hd b hb' (.inr ⟨j, a, q1, hb⟩)).elim
    · exact (hd b hb (.inr ⟨k, a', q2, hb'⟩)).elim
    · omega
/-- One row taken elsewhere as it grows. -/
theorem Tab.regrow {g n cap i : Nat} {u u' : Value} {m' : List α} (hne : e ≠ e') (h : Tab base e e' sz fl w (.slice (some ⟨g, 0, none⟩) n cap) xs rows) (hn : rows.length = n) (hu : xs[i]? = some u) (ho : w'.ownsRow base e' sz u' m'.length (fl m')) (hg : w.grownBy w' u.ownBlock)
    (hb : ∀ b, u'.ownBlock = some b → u.ownBlock = some b ∨ w.heap.size ≤ b) :
    Tab base e e' sz fl (w'.setCell ⟨g, i, none⟩ u') (.slice (some ⟨g, 0, none⟩) n cap) (xs.set i u') (rows.set i m') ∧ w'.grownBy (w'.setCell ⟨g, i, none⟩ u') (some g) := by
  subst hn
  have hl := h.len
  have hi : i < xs.length := (List.getElem?_eq_some_iff.1 hu).1
  have o1 := h.outer.kept hg (none_or fun b hb hv => h.apart hne hu hb hv)
  obtain ⟨s1, s2⟩ := o1.stored i u'
  refine ⟨⟨by rw [List.length_set]; exact s1, fun j a c ha hc => ?_, fun j k a a' b ha ha' hb1 hb2 => ?_⟩, s2⟩
  · rw [List.getElem?_set] at ha hc
    by_cases hij : i = j
    · subst hij
      rw [if_pos rfl, if_pos (by omega)] at ha hc
      injection ha with ha; injection hc with hc; subst ha hc
      exact ho.kept s2 (none_or fun b hb hv => own_apart hne o1 ho b hb hv)
    · rw [if_neg hij] at ha hc
      have o2 := (h.row j a c ha hc).kept hg (none_or fun b hb hv => hij (h.dist i j u a b hu ha hb hv))
      exact o2.kept s2 (none_or fun b hb hv => own_apart hne o1 o2 b hb hv)
  · have key : ∀ (j : Nat) (a : Value), (xs.set i u')[j]? = some a → (j ≠ i ∧ xs[j]? = some a) ∨ (j = i ∧ a = u') := by
      intro j a ha
      rw [List.getElem?_set] at ha
      by_cases hij : i = j
      · subst hij; rw [if_pos rfl, if_pos hi] at ha; injection ha with ha; exact .inr ⟨rfl, ha.symm⟩
      · rw [if_neg hij] at ha; exact .inl ⟨fun h => hij h.symm, ha⟩
    have bad : ∀ (j : Nat) (a : Value), j ≠ i → xs[j]? = some a → a.ownBlock = some b → u'.ownBlock = some b → False := by
      intro j a hj ha h1 h2
      rcases hb b h2 with h3 | h3
      · exact hj (h.dist j i a u b ha hu h1 h3)
      · have := (h.lt b (.inr ⟨j, a, ha, h1⟩)).2; omega
    rcases key j a ha with ⟨q0, q1⟩ | ⟨q1, rfl⟩ <;> rcases key k a' ha' with ⟨q3, q2⟩ | ⟨q2, rfl⟩
    · exact h.dist j k a a' b q1 q2 hb1 hb2
    · exact (bad j a q0 q1 hb1 hb2).elim
    · exact (bad k a' q3 q2 hb2 hb1).elim
    · omega
theorem Tab.flat (h : Tab base e e' sz fl w v xs rows) {L : Nat → Prop} (hL : ∀ b, TabB v xs b → ¬ L b) : Flat L w v 1 rows.length xs ∧ ∀ (i : Nat) (u : Value) (m : List α), xs[i]? = some u → rows[i]? = some m → Flat L w u sz m.length (fl m) := by
  have hbo : ∀ (u : Value) b, w.ownsRow base e 1 u rows.length xs ∨ (∃ m, w.ownsRow base e' sz u m.length (fl m)) → blk u = some b → u.ownBlock = some b := by
    intro u b hu hb
    rcases hu with hu | ⟨m, hu⟩ <;> rcases hu.2 with ⟨rfl, _⟩ | ⟨g, cap, cur, rfl, _⟩ <;> simp [blk] at hb <;> simp [Value.ownBlock, hb]
  exact ⟨Owned.flat h.outer fun b hb => hL b (.inl (hbo v b (.inl h.outer) hb)), fun i u m hu hm => Owned.flat (h.row i u m hu hm) fun b hb => hL b (.inr ⟨i, u, hu, hbo u b (.inr ⟨m, h.row i u m hu hm⟩) hb⟩)⟩
end
theorem mkRow {P : Program} (t e : TypeId) (i : TypeInfo) (z : Value) (ht : P.underlying t = some (.slice e)) (hi : P.info? e = some i) (hz : i.zero = some z) (n : Nat) (hb : i.bytes * n ≤ 281474976710656) (hn : n ≤ 1048577) (w : World) :
    (Instr.makeSlice t (.int .i64 (n : Int)) (.int .i64 (n : Int))).run P w = .ok (.slice (some ⟨w.heap.size, 0, none⟩) n n) (w.alloc (.cells (madeCells z.cells (n * i.size)) e)) := by
  have hr := run_make (P := P) w t e i z ht hi hz .i64 .i64 n n (by omega) (by omega) (by have : ((i.bytes * n : Nat) : Int) ≤ 281474976710656 := by omega
                                                                                          rwa [Int.natCast_mul] at this) (by omega)
  simpa only [Int.toNat_natCast] using hr
def fI : List Int → List Value := List.map (Value.int .i64)
def fB : List Bool → List Value := List.map Value.bool
section
variable {base : Nat} {e e' : TypeId} {w : World} {v : Value} {xs : List Value} {L : Nat → Prop}
theorem Tab.readsB {rows : List (List Bool)} (h : Tab base e e' 1 fB w v xs rows) (hL : ∀ b, TabB v xs b → ¬ L b) : Reads L w v (.boolss rows) :=
  ⟨xs, (h.flat hL).1, h.len, (h.flat hL).2⟩
theorem Tab.readsI {rows : List (List Int)} (h : Tab base e e' 1 fI w v xs rows) (hL : ∀ b, TabB v xs b → ¬ L b) : Reads L w v (.intss rows) :=
  ⟨xs, (h.flat hL).1, h.len, (h.flat hL).2⟩
theorem Tab.readsP {rows : List (List Pt)} (h : Tab base e e' 2 ptCells w v xs rows) (hL : ∀ b, TabB v xs b → ¬ L b) : Reads L w v (.ptss rows) :=
  ⟨xs, (h.flat hL).1, h.len, (h.flat hL).2⟩
end
/-- 'append' onto a row of the call's own, with where the new row lies. -/
theorem wpList_append_ownB {ops : Array Oper} {rest : List Oper} {o : Oper} {a : Act} {w : World} {Q : Exit → Act → World → Prop} (hgd : o.guard = none) (s x : Operand) (t : TypeId)
    (ho : o.op = .call { callee := .builtin .append, args := #[s, x], argTypes := #[t, t] })
    (base : Nat) (e : TypeId) (i : TypeInfo) (z : Value) (size bytes : Nat) (ht : Try.prog.underlying t = some (.slice e)) (hi : Try.prog.info? e = some i) (hz : i.zero = some z)
    (hsize : i.size = size) (hby : i.bytes = bytes) (hzs : z.cells.size = size) (hsz : 0 < size)
    (v : Value) (n : Nat) (xs : List Value) (hs : a.eval s = v) (hown : w.ownsRow base e size v n xs)
    (ad : Addr) (m c : Nat) (news : List Value) (hx : a.eval x = .slice (some ad) m c) (hl : news.length = m * size) (hnews : ∀ j u, news[j]? = some u → w.cell? (ad.add j) = some u) (h1 : ∀ u ∈ news, u.oneCell' = true)
    (h63 : n + m ≤ maxLen) (hbytes : (n + m) * bytes ≤ 140737488355328) (hbase : base ≤ w.heap.size)
    (h : ∀ v' w', w'.ownsRow base e size v' (n + m) (xs ++ news) → w.grownBy w' v.ownBlock → (∀ b, v'.ownBlock = some b → v.ownBlock = some b ∨ w.heap.size ≤ b) → wpList Try.prog ops Q rest (a.put o.dst v') w') : wpList Try.prog ops Q (o :: rest) a w := by
  obtain ⟨v', w', hr, h2, h3, h4⟩ := run_append_own (P := Try.prog) w base t o.type e i z size bytes ht hi hz hsize hby hzs hsz v n xs hown ad m c news hl hnews h1 h63 hbytes hbase
  subst hsize hby
  have hb := append_blk ht hi hz hown hl hnews h1 hsz h63 hbytes hr h4
  have hv : ∀ b, v'.ownBlock = some b → v.ownBlock = some b ∨ w.heap.size ≤ b := fun b e1 => by
    have e2 : blk v' = some b := by
      rcases h2.2 with ⟨rfl, _⟩ | ⟨g, cap, cur, rfl, _⟩
      · simp [Value.ownBlock] at e1
      · simpa [Value.ownBlock, blk] using e1
    rcases hb b e2 with e3 | e3
    · left
      rcases hown.2 with ⟨rfl, _⟩ | ⟨g, cap, cur, rfl, _⟩
      · simp [blk] at e3
      · simpa [Value.ownBlock, blk] using e3
    · exact .inr e3
  refine wpList_plain hgd fun _ hK => ?_
  unfold Oper.wp execOp
  simp only [ho, resolve, invoke, builtin, Sem.run_bind, Sem.run_pure, Result.andThen_ok, List.map_toArray, List.map_cons, List.map_nil, hs, hx, hr]
  exact hK _ _ (h v' w' h2 h3 hv)
/-- .. behind a guard that holds. -/
theorem wpList_append_ownG {ops : Array Oper} {rest : List Oper} {o : Oper} {a : Act} {w : World} {Q : Exit → Act → World → Prop} (hgd : Region.wanted o (yielded ops a.tmps) = true) (s x : Operand) (t : TypeId)
    (ho : o.op = .call { callee := .builtin .append, args := #[s, x], argTypes := #[t, t] })
    (base : Nat) (e : TypeId) (i : TypeInfo) (z : Value) (size bytes : Nat) (ht : Try.prog.underlying t = some (.slice e)) (hi : Try.prog.info? e = some i) (hz : i.zero = some z)
    (hsize : i.size = size) (hby : i.bytes = bytes) (hzs : z.cells.size = size) (hsz : 0 < size)
    (v : Value) (n : Nat) (xs : List Value) (hs : a.eval s = v) (hown : w.ownsRow base e size v n xs)
    (ad : Addr) (m c : Nat) (news : List Value) (hx : a.eval x = .slice (some ad) m c) (hl : news.length = m * size) (hnews : ∀ j u, news[j]? = some u → w.cell? (ad.add j) = some u) (h1 : ∀ u ∈ news, u.oneCell' = true)
    (h63 : n + m ≤ maxLen) (hbytes : (n + m) * bytes ≤ 140737488355328) (hbase : base ≤ w.heap.size)
    (h : ∀ v' w', w'.ownsRow base e size v' (n + m) (xs ++ news) → w.grownBy w' v.ownBlock → (∀ b, v'.ownBlock = some b → v.ownBlock = some b ∨ w.heap.size ≤ b) → wpList Try.prog ops Q rest (a.put o.dst v') w') : wpList Try.prog ops Q (o :: rest) a w := by
  obtain ⟨v', w', hr, h2, h3, h4⟩ := run_append_own (P := Try.prog) w base t o.type e i z size bytes ht hi hz hsize hby hzs hsz v n xs hown ad m c news hl hnews h1 h63 hbytes hbase
  subst hsize hby
  have hb := append_blk ht hi hz hown hl hnews h1 hsz h63 hbytes hr h4
  have hv : ∀ b, v'.ownBlock = some b → v.ownBlock = some b ∨ w.heap.size ≤ b := fun b e1 => by
    have e2 : blk v' = some b := by
      rcases h2.2 with ⟨rfl, _⟩ | ⟨g, cap, cur, rfl, _⟩
      · simp [Value.ownBlock] at e1
      · simpa [Value.ownBlock, blk] using e1
    rcases hb b e2 with e3 | e3
    · left
      rcases hown.2 with ⟨rfl, _⟩ | ⟨g, cap, cur, rfl, _⟩
      · simp [blk] at e3
      · simpa [Value.ownBlock, blk] using e3
    · exact .inr e3
  rw [wpList, if_pos hgd]
  left
  unfold Oper.wp execOp
  simp only [ho, resolve, invoke, builtin, Sem.run_bind, Sem.run_pure, Result.andThen_ok, List.map_toArray, List.map_cons, List.map_nil, hs, hx, hr]
  exact h v' w' h2 h3 hv
/-- .. as one step of a region that draws its order. -/
theorem step_append_ownB {ops : Array Oper} {o : Oper} {a : Act} {w : World} {K : Act → World → Prop} {Q : Exit → Act → World → Prop} {X : Prop} (hgd : o.guard = none) (s x : Operand) (t : TypeId)
    (ho : o.op = .call { callee := .builtin .append, args := #[s, x], argTypes := #[t, t] })
    (base : Nat) (e : TypeId) (i : TypeInfo) (z : Value) (size bytes : Nat) (ht : Try.prog.underlying t = some (.slice e)) (hi : Try.prog.info? e = some i) (hz : i.zero = some z)
    (hsize : i.size = size) (hby : i.bytes = bytes) (hzs : z.cells.size = size) (hsz : 0 < size)
    (v : Value) (n : Nat) (xs : List Value) (hs : a.eval s = v) (hown : w.ownsRow base e size v n xs)
    (ad : Addr) (m c : Nat) (news : List Value) (hx : a.eval x = .slice (some ad) m c) (hl : news.length = m * size) (hnews : ∀ j u, news[j]? = some u → w.cell? (ad.add j) = some u) (h1 : ∀ u ∈ news, u.oneCell' = true)
    (h63 : n + m ≤ maxLen) (hbytes : (n + m) * bytes ≤ 140737488355328) (hbase : base ≤ w.heap.size)
    (h : ∀ v' w', w'.ownsRow base e size v' (n + m) (xs ++ news) → w.grownBy w' v.ownBlock → (∀ b, v'.ownBlock = some b → v.ownBlock = some b ∨ w.heap.size ≤ b) → K (a.put o.dst v') w') :
    if Region.wanted o (yielded ops a.tmps) = true then Oper.wp Try.prog o a w K Q else X := by
  have hw : Region.wanted o (yielded ops a.tmps) = true := by simp [Region.wanted, hgd]
  rw [if_pos hw]
  obtain ⟨v', w', hr, h2, h3, h4⟩ := run_append_own (P := Try.prog) w base t o.type e i z size bytes ht hi hz hsize hby hzs hsz v n xs hown ad m c news hl hnews h1 h63 hbytes hbase
  subst hsize hby
  have hb := append_blk ht hi hz hown hl hnews h1 hsz h63 hbytes hr h4
  have hv : ∀ b, v'.ownBlock = some b → v.ownBlock = some b ∨ w.heap.size ≤ b := fun b e1 => by
    have e2 : blk v' = some b := by
      rcases h2.2 with ⟨rfl, _⟩ | ⟨g, cap, cur, rfl, _⟩
      · simp [Value.ownBlock] at e1
      · simpa [Value.ownBlock, blk] using e1
    rcases hb b e2 with e3 | e3
    · left
      rcases hown.2 with ⟨rfl, _⟩ | ⟨g, cap, cur, rfl, _⟩
      · simp [blk] at e3
      · simpa [Value.ownBlock, blk] using e3
    · exact .inr e3
  unfold Oper.wp execOp
  simp only [ho, resolve, invoke, builtin, Sem.run_bind, Sem.run_pure, Result.andThen_ok, List.map_toArray, List.map_cons, List.map_nil, hs, hx, hr]
  exact h v' w' h2 h3 hv
/-- A row cut behind its first elements. -/
theorem own_take {w : World} {base : Nat} {e : TypeId} {sz g n cap k : Nat} {xs : List Value} (h : w.ownsRow base e sz (.slice (some ⟨g, 0, none⟩) n cap) n xs) (hk : k ≤ n) : w.ownsRow base e sz (.slice (some ⟨g, 0, none⟩) k cap) k (xs.take (k * sz)) := by
  have hl : xs.length = n * sz := h.1
  have hks : k * sz ≤ n * sz := Nat.mul_le_mul_right _ hk
  refine ⟨by rw [List.length_take]; omega, ?_⟩
  rcases h.2 with ⟨h', _⟩ | ⟨g', cap', cur, h', hb, hg, hnc, hcm, hcs, htake⟩
  · simp at h'
  · simp only [Value.slice.injEq, Option.some.injEq, Addr.mk.injEq, and_true, true_and] at h'
    obtain ⟨rfl, rfl⟩ := h'
    exact .inr ⟨g, cap, cur, rfl, hb, hg, by omega, hcm, hcs, by rw [← htake, List.take_take, Nat.min_eq_left hks]⟩
theorem own_rebase {w : World} {b1 b2 : Nat} {e : TypeId} {sz : Nat} {v : Value} {n : Nat} {xs : List Value} (h : w.ownsRow b1 e sz v n xs) (hb : ∀ b, v.ownBlock = some b → b2 ≤ b) : w.ownsRow b2 e sz v n xs := by
  refine ⟨h.1, ?_⟩
  rcases h.2 with h1 | ⟨g, cap, cur, rfl, h2, r⟩
  · exact .inl h1
  · exact .inr ⟨g, cap, cur, rfl, hb g rfl, r⟩
theorem own_base {w : World} {b1 b2 : Nat} {e : TypeId} {sz : Nat} {v : Value} {n : Nat} {xs : List Value} (h : w.ownsRow b1 e sz v n xs) (hb : b2 ≤ b1) : w.ownsRow b2 e sz v n xs :=
  own_rebase h fun b hb' => Nat.le_trans hb (h.lt b hb').1
theorem bel_step {w0 w w' : World} {r : Option Nat} (h : Bel w0 w) (k : w.grownBy w' r) (hr : ∀ b, r = some b → w0.heap.size ≤ b) : Bel w0 w' :=
  ⟨k.os.trans h.os, k.tape.trans h.tape, k.output.trans h.output, Nat.le_trans h.size k.size, fun i hi => (k.block i (Nat.lt_of_lt_of_le hi h.size) (fun e => by have := hr i e.symm; omega)).trans (h.block i hi)⟩
theorem Reads.step {L : Nat → Prop} {w w' : World} {r : Option Nat} {v : Value} {c : Cont} (h : Reads L w v c) (k : w.grownBy w' r) (hr : ∀ b, r = some b → L b) : Reads L w' v c :=
  Reads.evo (E := EL L) (E' := EL L) ⟨k.size, fun b hb hl => k.block b hb (fun e => hl (hr b e.symm)), fun _ _ h => h, fun _ h => h⟩ h
theorem Flat.more {L : Nat → Prop} {w : World} {v : Value} {sz n : Nat} {xs : List Value} (h : Flat L w v sz n xs) : Flat (fun b => L b ∨ w.heap.size ≤ b) w v sz n xs := by
  obtain ⟨A, cap, rfl, h1, h2, h3, h4⟩ := h
  refine ⟨A, cap, rfl, h1, h2, h3, fun hn => ?_⟩
  obtain ⟨b, off, rfl, hb, hl, hc⟩ := h4 hn
  exact ⟨b, off, rfl, hb, fun h => h.elim hl (fun h => by omega), hc⟩
/-- What is read lies in memory that is there. -/
theorem Reads.more {L : Nat → Prop} {w : World} {v : Value} {c : Cont} (h : Reads L w v c) : Reads (fun b => L b ∨ w.heap.size ≤ b) w v c := by
  obtain ⟨xs, h1, h2⟩ := h
  refine ⟨xs, h1.more, ?_⟩
  cases c <;> simp only [CellsOK] at h2 ⊢ <;> first
    | exact h2
    | exact ⟨h2.1, fun i u m h3 h4 => (h2.2 i u m h3 h4).more⟩
theorem own_form {w : World} {base : Nat} {e : TypeId} {sz : Nat} {v : Value} {n : Nat} {xs : List Value} (h : w.ownsRow base e sz v n xs) : ∃ A c, v = .slice A n c := by
  rcases h.2 with ⟨rfl, rfl⟩ | ⟨g, cap, cur, rfl, _⟩
  · exact ⟨_, _, rfl⟩
  · exact ⟨_, _, rfl⟩
theorem own_some {w : World} {base : Nat} {e : TypeId} {sz n c : Nat} {A : Option Addr} {xs : List Value} (h : w.ownsRow base e sz (.slice A n c) n xs) (hn : 0 < n) : ∃ g, A = some ⟨g, 0, none⟩ ∧ base ≤ g := by
  rcases h.2 with ⟨_, h1⟩ | ⟨g, cap, cur, h1, hg, _⟩
  · omega
  · injection h1 with h1 _ _; exact ⟨g, h1, hg⟩
theorem two_cells (w : World) (x y : Value) (e : TypeId) : ∀ j u, [x, y][j]? = some u → (w.alloc (.cells #[x, y] e)).cell? ((⟨w.heap.size, 0, none⟩ : Addr).add j) = some u := by
  intro j u hj
  match j, hj with
  | 0, hj => simp at hj; subst hj; simp [Addr.add]
  | 1, hj => simp at hj; subst hj; simp [Addr.add]
theorem reads_old {w w' : World} {v : Value} {c : Cont} (h : Reads (fun _ => False) w v c) (hb : Bel w w') : Reads (fun _ => False) w' v c :=
  Reads.step h (bel_grown hb) (fun b e => by cases e)
theorem rep_set {α : Type} {l : List (List α)} {k n : Nat} (hn : l.length = n) (hk : k < n) : (l.take k ++ List.replicate (n - k) []).set k (l[k]'(by omega)) = l.take (k + 1) ++ List.replicate (n - (k + 1)) [] := by
  have e : n - k = (n - (k + 1)) + 1 := by omega
  have e2 : (l.take k).length = k := by rw [List.length_take]; omega
  rw [e, List.replicate_succ, List.set_append_right k _ (by omega), e2, Nat.sub_self, List.set_cons_zero, List.take_succ_eq_append_getElem (by omega), List.append_assoc]
  rfl
/-- What marking changes: rows of the table alone. -/
structure Mch (xs : List Value) (w w' : World) : Prop where
  os : w'.os = w.os
  tape : w'.tape = w.tape
  output : w'.output = w.output
  size : w.heap.size ≤ w'.heap.size
  block : ∀ b, b < w.heap.size → (∀ (i : Nat) (u : Value), xs[i]? = some u → u.ownBlock ≠ some b) → w'.heap[b]? = w.heap[b]?
theorem Mch.refl (xs : List Value) (w : World) : Mch xs w w := ⟨rfl, rfl, rfl, Nat.le_refl _, fun _ _ _ => rfl⟩
theorem Mch.step {xs : List Value} {w w1 w2 : World} {i : Nat} {u : Value} (h : Mch xs w w1) (hu : xs[i]? = some u) (k : w1.grownBy w2 u.ownBlock) : Mch xs w w2 :=
  ⟨k.os.trans h.os, k.tape.trans h.tape, k.output.trans h.output, Nat.le_trans h.size k.size, fun b hb hn => (k.block b (Nat.lt_of_lt_of_le hb h.size) (fun e => hn i u hu e.symm)).trans (h.block b hb hn)⟩
theorem Mch.grown {xs : List Value} {w w1 w2 : World} (h : Mch xs w w1) (k : w1.grownBy w2 none) : Mch xs w w2 :=
  ⟨k.os.trans h.os, k.tape.trans h.tape, k.output.trans h.output, Nat.le_trans h.size k.size, fun b hb hn => (k.block b (Nat.lt_of_lt_of_le hb h.size) (fun e => by cases e)).trans (h.block b hb hn)⟩
theorem Mch.bel {xs : List Value} {w0 w w' : World} (hB : Bel w0 w) (h : Mch xs w w') (hx : ∀ (i : Nat) (u : Value) b, xs[i]? = some u → u.ownBlock = some b → w0.heap.size ≤ b) : Bel w0 w' :=
  ⟨h.os.trans hB.os, h.tape.trans hB.tape, h.output.trans hB.output, Nat.le_trans hB.size h.size, fun b hb => (h.block b (Nat.lt_of_lt_of_le hb hB.size) (fun i u hu hv => by have := hx i u b hu hv; omega)).trans (hB.block b hb)⟩
theorem Mch.own {xs : List Value} {w w' : World} {base : Nat} {e : TypeId} {sz : Nat} {v : Value} {n : Nat} {ys : List Value} (ho : w.ownsRow base e sz v n ys) (h : Mch xs w w') (hx : ∀ (i : Nat) (u : Value) b, xs[i]? = some u → u.ownBlock = some b → v.ownBlock ≠ some b) : w'.ownsRow base e sz v n ys := by
  refine ⟨ho.1, ?_⟩
  rcases ho.2 with h1 | ⟨g, cap, cur, rfl, h2, h3, r⟩
  · exact .inl h1
  · exact .inr ⟨g, cap, cur, rfl, h2, (h.block g (heap_lt h3) (fun i u hu hv => hx i u g hu hv rfl)).trans h3, r⟩
theorem Mch.inv {xs : List Value} {w w' : World} (hI : GInv w) (h : Mch xs w w') (hx : ∀ (i : Nat) (u : Value) b, xs[i]? = some u → u.ownBlock = some b → NG ≤ b) : GInv w' := by
  first
    | trivial
    | (refine ⟨Nat.le_trans hI.1 h.size, fun ad x hu => ?_⟩
       have hb := ldG_blk hu
       have h1 : NG ≤ w.heap.size := hI.1
       unfold NG at h1
       rw [← hI.2 ad x hu]
       exact World.cell?_of_block (w := w) (h.block ad.block (by omega) (fun i u hu hv => by have := hx i u _ hu hv; unfold NG at this; omega)))
/-- Three rows of a call's own. -/
structure Arm3 (base : Nat) (w : World) (v1 v2 v3 : Value) (a1 a2 a3 : List Int) : Prop where
  o1 : w.ownsRow base 3 1 v1 a1.length (fI a1)
  o2 : w.ownsRow base 3 1 v2 a2.length (fI a2)
  o3 : w.ownsRow base 3 1 v3 a3.length (fI a3)
  d12 : ∀ b, v1.ownBlock = some b → v2.ownBlock ≠ some b
  d13 : ∀ b, v1.ownBlock = some b → v3.ownBlock ≠ some b
  d23 : ∀ b, v2.ownBlock = some b → v3.ownBlock ≠ some b
theorem Arm3.bel {base : Nat} {w w' : World} {v1 v2 v3 : Value} {a1 a2 a3 : List Int} (h : Arm3 base w v1 v2 v3 a1 a2 a3) (hb : Bel w w') : Arm3 base w' v1 v2 v3 a1 a2 a3 :=
  ⟨own_bel h.o1 hb, own_bel h.o2 hb, own_bel h.o3 hb, h.d12, h.d13, h.d23⟩
theorem ginv_bel0 {w w' : World} (hI : GInv w) (hb : Bel w w') : GInv w' := GInv.keep hI (bel_grown hb) (fun b e => by cases e)
theorem set_size (w : World) (p : Addr) (u : Value) : (w.setCell p u).heap.size = w.heap.size := by simp [World.setCell]
theorem grown_set (w : World) (g o : Nat) (u : Value) : w.grownBy (w.setCell ⟨g, o, none⟩ u) (some g) :=
  ⟨rfl, rfl, rfl, by rw [set_size]; exact Nat.le_refl _, fun k _ hk => Below.heap_setCell w ⟨g, o, none⟩ u k (fun e => hk (by rw [e]))⟩
theorem own_set {w : World} {base : Nat} {e : TypeId} {sz : Nat} {v : Value} {n : Nat} {xs : List Value} {g o : Nat} {u : Value} (h : w.ownsRow base e sz v n xs) (hne : ∀ b, v.ownBlock = some b → b ≠ g) : (w.setCell ⟨g, o, none⟩ u).ownsRow base e sz v n xs :=
  h.kept (grown_set w g o u) (none_or fun b hb hv => by injection hb with hb; exact hne b hv hb.symm)
theorem grown_trans {w0 w1 w2 : World} {r : Option Nat} (h : w0.grownBy w1 r) (k : w1.grownBy w2 r) : w0.grownBy w2 r :=
  ⟨k.os.trans h.os, k.tape.trans h.tape, k.output.trans h.output, Nat.le_trans h.size k.size, fun i hi hne => (k.block i (Nat.lt_of_lt_of_le hi h.size) hne).trans (h.block i hi hne)⟩
/-- Blocks that were not there may be written. -/
theorem grown_past {w0 w1 w2 : World} {r s : Option Nat} (h : w0.grownBy w1 r) (k : w1.grownBy w2 s) (hs : ∀ b, s = some b → w0.heap.size ≤ b) : w0.grownBy w2 r :=
  ⟨k.os.trans h.os, k.tape.trans h.tape, k.output.trans h.output, Nat.le_trans h.size k.size, fun i hi hne => (k.block i (Nat.lt_of_lt_of_le hi h.size) (fun e => by have := hs i e.symm; omega)).trans (h.block i hi hne)⟩
theorem grown_alloc (w : World) (o : Obj) (r : Option Nat) : w.grownBy (w.alloc o) r := World.grownBy_alloc w o r
end Go.Proofs.Ytdpokkegkedlfaa
