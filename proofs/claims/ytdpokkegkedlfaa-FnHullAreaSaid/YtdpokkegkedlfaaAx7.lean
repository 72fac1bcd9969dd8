/- A region up to its first operation that writes: each step keeps what is known. -/
import Derived.Test.YtdpokkegkedlfaaAx6
namespace Go.Proofs.Ytdpokkegkedlfaa
open Go.RowKit
set_option maxRecDepth 10000
section
variable {sig : FuncId → List AV → Option Sg} {σ : St} {base : Nat} {ops : List Oper} {V : List Ent} {Ez E : Env} {az a : Act} {wz w : World} {L : Nat → Bool}
def withL (L : Nat → Bool) (i : Nat) : Nat → Bool := fun k => if k = i then true else L k
theorem withL_self (i : Nat) : withL L i i = true := by simp [withL]
theorem withL_ne {i j : Nat} (h : j ≠ i) : withL L i j = L j := by simp [withL, h]
theorem withL_of {i j : Nat} (h : L j = true) : withL L i j = true := by simp [withL, h]
theorem mem_grow {B : Nat → Option Bx} {w' : World} (h : MemOK base E w B) (hg : w.grownBy w' none) : MemOK base E w' B := by
  refine ⟨h.lt.grow hg (fun _ e => by cases e), fun k bx hk => ?_, h.lv⟩
  exact Bx.ok_evo (grown_evo hg) (fun g hgb => hg.block g (Bx.ok_lt (h.ok k bx hk) hgb).2 (by simp)) (fun _ _ _ _ _ _ => rfl) (h.ok k bx hk)
theorem mem_new {B B' : Nat → Option Bx} {w' : World} {id : Nat} {v : Value} {bx : Bx} (h : MemOK base E w B) (hg : w.grownBy w' none) (hv : ∀ b, blk v = some b → w.heap.size ≤ b) (hbx : bx.ok base (E.new id v) w' v)
    (hB : ∀ k b, B' k = some b → (k = id ∧ b = bx) ∨ (k ≠ id ∧ B k = some b)) (hc : ∀ k b, B k = some b → ∀ l, b = .box l → ∀ s ∈ l, s.on id = false) : MemOK base (E.new id v) w' B' := by
  refine ⟨⟨fun b hb => ?_, (h.lt.grow hg (fun _ e => by cases e)).inv⟩, fun k b hk => ?_, fun k b g hk hgb => ?_⟩
  · rcases hb with hb | hb
    · exact (h.lt.grow hg (fun _ e => by cases e)).lt' b hb
    · exact ⟨Nat.le_trans h.lt.inv.ng (hv b hb), (Bx.ok_lt hbx hb).2⟩
  · rcases hB k b hk with ⟨rfl, rfl⟩ | ⟨hne, hk'⟩
    · rw [new_hd_self]; exact hbx
    · rw [new_hd hne]
      exact Bx.ok_evo (new_evo hg hv) (fun g hgb => hg.block g (Bx.ok_lt (h.ok k b hk') hgb).2 (by simp))
        (fun l hl s hs j hj => new_hd (by rintro rfl; rw [hc k b hk' l hl s hs] at hj; cases hj)) (h.ok k b hk')
  · rcases hB k b hk with ⟨rfl, rfl⟩ | ⟨hne, hk'⟩
    · rw [new_hd_self] at hgb; exact .inr hgb
    · rw [new_hd hne] at hgb; exact .inl (h.lv k b g hk' hgb)
/-- The ids of what is known lie among those that are there. -/
theorem ids_listed (hV : VOK sig σ ops V) (hJ : RJ σ base ops V Ez az wz L E a w) {j : Nat} {e : Ent} (hj : L j = true) (he : V[j]? = some e) {k : Nat} {nw : Bool} (hk : okIds σ j e.dp nw k = true) : k < σ.n ∨ (σ.n ≤ k ∧ L (k - σ.n) = true) := by
  simp only [okIds, Bool.or_eq_true, Bool.and_eq_true, beq_iff_eq] at hk
  rcases hk with (hk | hk) | hk
  · exact .inl (blt_iff.1 hk)
  · rcases Nat.lt_or_ge k σ.n with h | h
    · exact .inl h
    · exact .inr ⟨h, hJ.closed j e hj he _ hk⟩
  · exact .inr ⟨by omega, by rw [show k - σ.n = j by omega]; exact hj⟩
theorem ent_of (hV : VOK sig σ ops V) {j : Nat} {e : Ent} (he : V[j]? = some e) : ∃ o p path d p0 f nb, ops[j]? = some o ∧ p ∧ gPath (V.take j) j o.after.toList o.guard = some path ∧ o.dst = some d ∧ dIdx ops d = some j ∧
    pFact sig σ ops (V.take j) j o.after.toList path (dpOf (V.take j) o.after.toList) o.type o.op = some (p0, f, nb) ∧
      (∀ q ∈ path, q.1 < j) ∧ f.idsOK (okIds σ j (dpOf (V.take j) o.after.toList) nb.isSome) = true ∧ (∀ bx, nb = some bx → bx.idsOK (okIds σ j (dpOf (V.take j) o.after.toList) false) = true) ∧
      p = under (V.take j) path p0 ∧ e = ⟨path, f, nb, dpOf (V.take j) o.after.toList⟩ := by
  have hj : j < V.length := (List.getElem?_eq_some_iff.1 he).1
  have hjo : j < ops.length := by have := hV.1; omega
  obtain ⟨p, e', hp, h1, h2⟩ := hV.2 j ops[j] hj (List.getElem?_eq_getElem hjo)
  rw [he] at h1; injection h1 with h1; subst h1
  obtain ⟨path, d, p0, f, nb, q1, q2, q3, q4, q5, q6, q7, q8, q9, q10⟩ := pStep_inv h2
  exact ⟨ops[j], p, path, d, p0, f, nb, List.getElem?_eq_getElem hjo, hp, q1, q2, q3, q4, q5, q6, q7, q9, q10⟩
theorem rB_cases {k : Nat} {bx : Bx} (h : rB σ V L k = some bx) : lookB σ.b k = some bx ∨ (lookB σ.b k = none ∧ σ.n ≤ k ∧ L (k - σ.n) = true ∧ ∃ e, V[k - σ.n]? = some e ∧ e.nb = some bx) := by
  unfold rB at h
  cases hb : lookB σ.b k with
  | some b => rw [hb] at h; exact .inl h
  | none =>
    rw [hb] at h
    simp only at h
    split at h
    · rename_i hk
      simp only [Bool.and_eq_true] at hk
      cases hv : V[k - σ.n]? with
      | none => rw [hv] at h; cases h
      | some e => rw [hv] at h; exact .inr ⟨rfl, Nat.le_of_ble_eq_true hk.1, hk.2, e, rfl, h⟩
    · cases h
theorem rB_old {k : Nat} {bx : Bx} (h : lookB σ.b k = some bx) : rB σ V L k = some bx := by unfold rB; rw [h]
theorem rB_new (hpre : PreR σ base ops Ez az wz) {j : Nat} {bx : Bx} {e : Ent} (hl : L j = true) (hv : V[j]? = some e) (hn : e.nb = some bx) : rB σ V L (σ.n + j) = some bx := by
  unfold rB
  cases hb : lookB σ.b (σ.n + j) with
  | some b => have := (hpre.bids _ _ hb).1; omega
  | none =>
    simp only [Nat.add_sub_cancel_left]
    rw [if_pos (by rw [hl]; simp), hv]
    exact hn
/-- The memory that is there leans on no id that is not. -/
theorem box_ids (hpre : PreR σ base ops Ez az wz) (hV : VOK sig σ ops V) (hJ : RJ σ base ops V Ez az wz L E a w) {i : Nat} (hli : L i = false) {k : Nat} {bx : Bx} (h : rB σ V L k = some bx) :
    ∀ l, bx = .box l → ∀ s ∈ l, s.on (σ.n + i) = false := by
  rintro l rfl s hs
  cases hon : s.on (σ.n + i) with
  | false => rfl
  | true =>
    exfalso
    rcases rB_cases h with hb | ⟨_, _, hl, e, he, hn⟩
    · have := Bx.idsOK_on (hpre.bids _ _ hb).2 l rfl s hs _ hon
      have := blt_iff.1 this
      omega
    · obtain ⟨o, p, path, d, p0, f, nb, _, _, _, _, _, _, _, _, q7, _, q9⟩ := ent_of hV he
      have hnb : nb = some (.box l) := by rw [q9] at hn; exact hn
      have h1 := Bx.idsOK_on (q7 _ hnb) l rfl s hs _ hon
      have h2 := ids_listed hV hJ hl he (k := σ.n + i) (nw := false) (by rw [q9]; exact h1)
      rcases h2 with h2 | h2
      · omega
      · rw [Nat.add_sub_cancel_left, hli] at h2; cases h2.2
theorem put_get {d t : Nat} {v : Value} (hd : d < a.tmps.size) : (a.put (some d) v).tmps.getD t undef = if t = d then v else a.tmps.getD t undef := by
  by_cases ht : t = d
  · subst ht; simp [Act.put, Array.getD_eq_getD_getElem?, hd]
  · rw [if_neg ht]; simp [Act.put, Array.getD_eq_getD_getElem?, Ne.symm ht]
/-- One more operation has been carried out. -/
theorem RJ_put (hpre : PreR σ base ops Ez az wz) (hV : VOK sig σ ops V) (hJ : RJ σ base ops V Ez az wz L E a w) {i d : Nat} {o : Oper} {e : Ent} (ho : ops[i]? = some o) (hod : o.dst = some d) (hdi : dIdx ops d = some i) (he : V[i]? = some e) (hli : L i = false)
    (haf : ∀ k, e.dp.testBit k = true → L k = true) {E' : Env} {w' : World} {v : Value} (hg : w.grownBy w' none) (hev : Evo E E' w w') (hhd : ∀ k, k ≠ σ.n + i → E'.hd k = E.hd k)
    (hmem : MemOK base E' w' (rB σ V (withL L i)))
    (hdist : ∀ k k' bx bx' g, rB σ V (withL L i) k = some bx → rB σ V (withL L i) k' = some bx' → blk (E'.hd k) = some g → blk (E'.hd k') = some g → k = k')
    (hv : (pathOK V e.path → e.f.has E' w' v) ∧ (¬ pathOK V e.path → v = undef)) (hup : ∀ b, E.lv b → E'.lv b)
    (hown : ∀ k bx b, rB σ V (withL L i) k = some bx → lookB σ.b k = none → blk (E'.hd k) = some b → wz.heap.size ≤ b) : RJ σ base ops V Ez az wz (withL L i) E' (a.put o.dst v) w' := by
  have hds : d < a.tmps.size := by rw [hJ.size]; exact hpre.dsts o (List.mem_of_getElem? ho) d hod
  have hlen : i < V.length := (List.getElem?_eq_some_iff.1 he).1
  refine ⟨by simp [Act.put, hod, hJ.size], by simp [Act.put, hod, hJ.defers], fun t ht => ?_, fun k hk => (hhd k (by omega)).trans (hJ.hd k hk), hJ.evo.trans hev, ?_, hmem, hdist, ?_, ?_, ?_, fun b hb => hup b (hJ.up b hb), hown⟩
  · rw [hod, put_get hds]
    rw [if_neg (by rintro rfl; have := ht i hdi; rw [withL_self] at this; cases this)]
    refine hJ.old t fun j hj => ?_
    have := ht j hj
    by_cases hji : j = i
    · subst hji; rw [withL_self] at this; cases this
    · rwa [withL_ne hji] at this
  · exact ⟨hg.os.trans hJ.grown.os, hg.tape.trans hJ.grown.tape, hg.output.trans hJ.grown.output, Nat.le_trans hJ.grown.size hg.size, fun k hk hne => (hg.block k (Nat.lt_of_lt_of_le hk hJ.grown.size) hne).trans (hJ.grown.block k hk hne)⟩
  · intro j ej hj hej k hk
    by_cases hji : j = i
    · subst hji
      rw [he] at hej; injection hej with hej; subst hej
      exact withL_of (haf k hk)
    · rw [withL_ne hji] at hj
      exact withL_of (hJ.closed j ej hj hej k hk)
  · intro j ej t hj hej hdt
    rw [hod, put_get hds]
    by_cases hji : j = i
    · subst hji
      rw [he] at hej; injection hej with hej; subst hej
      have htd : t = d := by
        have h1 := (List.findIdx?_eq_some_iff_getElem.1 hdt).2.1
        have h2 := (List.findIdx?_eq_some_iff_getElem.1 hdi).2.1
        simp only [beq_iff_eq] at h1 h2
        rw [h1] at h2; injection h2
      rw [if_pos htd]; exact hv
    · rw [withL_ne hji] at hj
      have htd : t ≠ d := by
        rintro rfl
        rw [hdi] at hdt; injection hdt with hdt; exact hji hdt.symm
      rw [if_neg htd]
      obtain ⟨h1, h2⟩ := hJ.new j ej t hj hej hdt
      refine ⟨fun hp => FV.has_evo hev (fun k hk => hhd k ?_) (h1 hp), h2⟩
      rintro rfl
      obtain ⟨o', p, path, d', p0, f, nb, _, _, _, _, _, _, _, q6, _, _, q9⟩ := ent_of hV hej
      have hid : ej.f.idsOK (okIds σ j ej.dp nb.isSome) = true := by rw [q9]; exact q6
      have h3 := ids_listed hV hJ hj hej (FV.idsOK_on hid hk)
      rcases h3 with h3 | h3
      · omega
      · rw [Nat.add_sub_cancel_left, hli] at h3; cases h3.2
  · intro j hj
    by_cases hji : j = i
    · subst hji; exact hlen
    · rw [withL_ne hji] at hj; exact hJ.lim j hj
/-- .. that made no memory. -/
theorem RJ_same (hpre : PreR σ base ops Ez az wz) (hV : VOK sig σ ops V) (hJ : RJ σ base ops V Ez az wz L E a w) {i d : Nat} {o : Oper} {e : Ent} (ho : ops[i]? = some o) (hod : o.dst = some d) (hdi : dIdx ops d = some i) (he : V[i]? = some e) (hli : L i = false)
    (haf : ∀ k, e.dp.testBit k = true → L k = true) (hnb : e.nb = none ∨ ¬ pathOK V e.path ∧ e.path ≠ []) (hnb2 : e.nb ≠ none → e.path = []) {w' : World} {v : Value} (hg : w.grownBy w' none) (hv : (pathOK V e.path → e.f.has E w' v) ∧ (¬ pathOK V e.path → v = undef)) :
    RJ σ base ops V Ez az wz (withL L i) E (a.put o.dst v) w' := by
  have hnone : e.nb = none := by
    rcases hnb with h | ⟨_, h⟩
    · exact h
    · cases hn : e.nb with
      | none => rfl
      | some b => exact absurd (hnb2 (by rw [hn]; simp)) h
  have hsub : ∀ k bx, rB σ V (withL L i) k = some bx → rB σ V L k = some bx := by
    intro k bx hk
    rcases rB_cases hk with hb | ⟨hb, h1, h2, e', h3, h4⟩
    · exact rB_old hb
    · by_cases hki : k - σ.n = i
      · rw [hki, he] at h3; injection h3 with h3; subst h3
        rw [hnone] at h4; cases h4
      · rw [withL_ne hki] at h2
        unfold rB
        rw [hb]
        simp only
        rw [if_pos (by rw [h2]; simp [Nat.ble_eq_true_of_le h1]), h3]
        exact h4
  refine RJ_put hpre hV hJ ho hod hdi he hli haf hg (grown_evo hg) (fun _ _ => rfl) ((mem_grow hJ.mem hg).mono hsub) (fun k k' bx bx' g h1 h2 => hJ.dist k k' bx bx' g (hsub k bx h1) (hsub k' bx' h2)) hv (fun _ h => h) (fun k bx b h1 h2 h3 => hJ.own k bx b (hsub k bx h1) h2 h3)
/-- .. that made memory. -/
theorem RJ_new (hpre : PreR σ base ops Ez az wz) (hV : VOK sig σ ops V) (hJ : RJ σ base ops V Ez az wz L E a w) {i d : Nat} {o : Oper} {e : Ent} {bx : Bx} (ho : ops[i]? = some o) (hod : o.dst = some d) (hdi : dIdx ops d = some i) (he : V[i]? = some e) (hli : L i = false)
    (haf : ∀ k, e.dp.testBit k = true → L k = true) (hnb : e.nb = some bx) (hpth : e.path = []) {w' : World} {v : Value} (hg : w.grownBy w' none) (hbx : bx.ok base (E.new (σ.n + i) v) w' v) (hf : e.f.has (E.new (σ.n + i) v) w' v) (hfr : ∀ b, blk v = some b → w.heap.size ≤ b) :
    RJ σ base ops V Ez az wz (withL L i) (E.new (σ.n + i) v) (a.put o.dst v) w' := by
  have hcase : ∀ k b, rB σ V (withL L i) k = some b → (k = σ.n + i ∧ b = bx) ∨ (k ≠ σ.n + i ∧ rB σ V L k = some b) := by
    intro k b hk
    rcases rB_cases hk with hb | ⟨hb, h1, h2, e', h3, h4⟩
    · exact .inr ⟨by have := (hpre.bids _ _ hb).1; omega, rB_old hb⟩
    · by_cases hki : k - σ.n = i
      · rw [hki, he] at h3; injection h3 with h3; subst h3
        rw [hnb] at h4; injection h4 with h4
        exact .inl ⟨by omega, h4.symm⟩
      · rw [withL_ne hki] at h2
        refine .inr ⟨by omega, ?_⟩
        unfold rB
        rw [hb]
        simp only
        rw [if_pos (by rw [h2]; simp [Nat.ble_eq_true_of_le h1]), h3]
        exact h4
  refine RJ_put hpre hV hJ ho hod hdi he hli haf hg (new_evo hg hfr) (fun k hk => new_hd hk) (mem_new hJ.mem hg hfr hbx hcase (fun k b hk => box_ids hpre hV hJ hli hk)) ?_ ⟨fun _ => hf, fun hn => absurd (by rw [hpth]; intro q hq; cases hq) hn⟩ (fun _ h => .inl h) (fun k b g h1 h2 h3 => by
    rcases hcase k b h1 with ⟨rfl, rfl⟩ | ⟨hne, h1'⟩
    · rw [new_hd_self] at h3
      exact Nat.le_trans hJ.grown.size (hfr g h3)
    · rw [new_hd hne] at h3
      exact hJ.own k b g h1' h2 h3)
  intro k k' b b' g h1 h2 hk hk'
  rcases hcase k b h1 with ⟨rfl, rfl⟩ | ⟨hne, h1'⟩
  · rcases hcase k' b' h2 with ⟨rfl, rfl⟩ | ⟨hne', h2'⟩
    · rfl
    · exfalso
      rw [new_hd_self] at hk
      rw [new_hd hne'] at hk'
      have := hfr g hk
      have := (Bx.ok_lt (hJ.mem.ok k' b' h2') hk').2
      omega
  · rcases hcase k' b' h2 with ⟨rfl, rfl⟩ | ⟨hne', h2'⟩
    · exfalso
      rw [new_hd_self] at hk'
      rw [new_hd hne] at hk
      have := hfr g hk'
      have := (Bx.ok_lt (hJ.mem.ok k b h1') hk).2
      omega
    · rw [new_hd hne] at hk
      rw [new_hd hne'] at hk'
      exact hJ.dist k k' b b' g h1' h2' hk hk'
theorem gPath_inv {V' : List Ent} {i : Nat} {af : List Edge} {gd : Option (Nat × Bool)} {path : List (Nat × Bool)} (h : gPath V' i af gd = some path) :
    (gd = none ∧ path = []) ∨ ∃ g b p c nb dp, gd = some (g, b) ∧ hasAft af g = true ∧ g < i ∧ V'[g]? = some ⟨p, .v (.s (.bool c)), nb, dp⟩ ∧ path = (g, b) :: p := by
  unfold gPath at h
  split at h
  · injection h with h; exact .inl ⟨rfl, h.symm⟩
  · rename_i g b
    split at h
    · rename_i hk
      simp only [Bool.and_eq_true] at hk
      split at h
      · rename_i p c nb dp hv
        injection h with h
        exact .inr ⟨g, b, p, c, nb, dp, rfl, hk.1, blt_iff.1 hk.2, hv, h.symm⟩
      · cases h
    · cases h
/-- The guard, as the facts tell it. -/
theorem wanted_iff (hV : VOK sig σ ops V) (hJ : RJ σ base ops V Ez az wz L E a w) {i : Nat} {o : Oper} {path : List (Nat × Bool)} (haf : ∀ j, hasAft o.after.toList j = true → L j = true) (hp : gPath (V.take i) i o.after.toList o.guard = some path) :
    Region.wanted o (yielded ops.toArray a.tmps) = true ↔ pathOK V path := by
  rcases gPath_inv hp with ⟨h1, h2⟩ | ⟨g, b, p, c, nb, dp, h1, h2, h3, h4, h5⟩
  · subst h2
    simp [Region.wanted, h1, pathOK]
  · subst h5
    have hv := (take_get h4).2
    obtain ⟨og, _, _, d, _, _, _, q1, _, _, q2, q3, _⟩ := ent_of hV hv
    obtain ⟨n1, n2⟩ := hJ.new g _ d (haf g h2) hv q3
    have hy : yielded ops.toArray a.tmps g = match a.tmps[d]? with | some (.bool b) => some b | _ => none := by
      unfold yielded
      simp [q1, q2]
      cases a.tmps[d]? with
      | none => rfl
      | some u => cases u <;> rfl
    have hget : a.tmps.getD d undef = (a.tmps[d]?).getD undef := by simp [Array.getD_eq_getD_getElem?]
    simp only [Region.wanted, h1, beq_iff_eq]
    constructor
    · intro hw q hq
      by_cases hpo : pathOK V p
      · rcases List.mem_cons.1 hq with rfl | hq
        · have hval : a.tmps.getD d undef = .bool c := n1 hpo
          rw [hget] at hval
          cases ht : a.tmps[d]? with
          | none => rw [ht] at hval; cases hval
          | some u =>
            rw [ht] at hval
            simp only [Option.getD_some] at hval
            subst hval
            rw [hy, ht] at hw
            injection hw with hw
            exact ⟨_, c, hv, rfl, hw⟩
        · exact hpo q hq
      · exfalso
        have hval : a.tmps.getD d undef = undef := n2 hpo
        rw [hget] at hval
        cases ht : a.tmps[d]? with
        | none => rw [hy, ht] at hw; cases hw
        | some u =>
          rw [ht] at hval
          simp only [Option.getD_some] at hval
          subst hval
          rw [hy, ht] at hw
          cases hw
    · intro hpo
      have hpo' : pathOK V p := fun q hq => hpo q (List.mem_cons_of_mem _ hq)
      obtain ⟨e, c', e1, e2, e3⟩ := hpo (g, b) (List.mem_cons_self ..)
      simp only at e1 e3
      rw [hv] at e1; injection e1 with e1; subst e1
      injection e2 with e2; injection e2 with e2; injection e2 with e2
      subst e2 e3
      have hval : a.tmps.getD d undef = .bool c := n1 hpo'
      rw [hget] at hval
      cases ht : a.tmps[d]? with
      | none => rw [ht] at hval; cases hval
      | some u =>
        rw [ht] at hval
        simp only [Option.getD_some] at hval
        subst hval
        rw [hy, ht]
theorem qPick_ok {x y : FV} {r : FV} {c : Bool} {vx vy : Value} (h : qPick c x y = some r) (hx : c = true → x.has E w vx) (hy : c = false → y.has E w vy) : r.has E w (if c then vx else vy) := by
  unfold qPick at h
  split at h
  · injection h with h; subst h
    cases c with
    | true => have := hx rfl; simpa [FV.has, AV.has, SV.has, iite] using this
    | false => have := hy rfl; simpa [FV.has, AV.has, SV.has, iite] using this
  · injection h with h; subst h
    cases c with
    | true => have := hx rfl; simpa [FV.has, AV.has, SV.has, bite] using this
    | false => have := hy rfl; simpa [FV.has, AV.has, SV.has, bite] using this
  · injection h with h; subst h
    cases c with
    | true => have := agg2_form (hx rfl); rw [if_pos rfl, this]; exact ⟨_, rfl, by simp [SV.has, iite], by simp [SV.has, iite], trivial⟩
    | false => have := agg2_form (hy rfl); rw [if_neg (by simp), this]; exact ⟨_, rfl, by simp [SV.has, iite], by simp [SV.has, iite], trivial⟩
  · cases h
/-- One operation, if those that it waits for have been carried out. -/
theorem step_ok (hsig : SigOK sig) (hpre : PreR σ base ops Ez az wz) (hV : VOK sig σ ops V) (hJ : RJ σ base ops V Ez az wz L E a w) {i : Nat} {o : Oper} (ho : ops[i]? = some o) (hi : i < V.length) (hli : L i = false)
    (haf : ∀ j, hasAft o.after.toList j = true → L j = true) {K : Act → World → Prop} {Q : Exit → Act → World → Prop} (hK : ∀ E' a' w', RJ σ base ops V Ez az wz (withL L i) E' a' w' → K a' w') :
    if Region.wanted o (yielded ops.toArray a.tmps) then o.wp Try.prog a w K Q else K (a.put o.dst undef) w := by
  obtain ⟨e, he⟩ : ∃ e, V[i]? = some e := ⟨V[i], List.getElem?_eq_getElem hi⟩
  obtain ⟨o', p, path, d, p0, f, nb, q0, hp, q1, q2, q3, q4, q5, q6, q7, q8, q9⟩ := ent_of hV he
  rw [ho] at q0; injection q0 with q0; subst q0
  have hdp : ∀ k, e.dp.testBit k = true → L k = true := by
    intro k hk
    rw [q9] at hk
    simp only at hk
    rw [dpOf_bit] at hk
    obtain ⟨ed, h1, h2, h3⟩ := hk
    have h4 : L ed.on = true := haf ed.on (List.any_eq_true.2 ⟨ed, h1, by simp [h2]⟩)
    rcases h3 with h3 | ⟨en, h3, h5⟩
    · rw [← h3]; exact h4
    · exact hJ.closed ed.on en h4 (take_get h3).2 k h5
  have hpth : e.path = path := by rw [q9]
  have hef : e.f = f := by rw [q9]
  have hen : e.nb = nb := by rw [q9]
  have hwi := wanted_iff hV hJ haf q1
  have hMem := hJ.mem.mono (iB_sub (i := i) (dp := dpOf (V.take i) o.after.toList) (by rw [q9] at hdp; exact hdp))
  by_cases hw : Region.wanted o (yielded ops.toArray a.tmps) = true
  · rw [if_pos hw]
    have hpo : pathOK V path := hwi.1 hw
    have hp0 : p0 := by
      rw [q8] at hp
      exact under_ok hp ((pathOK_take q5).2 hpo)
    have hbig : base ≤ w.heap.size := Nat.le_trans hpre.big hJ.grown.size
    have hGid : ∀ x, (gO σ ops (V.take i) i o.after.toList path x).on (σ.n + i) = false := by
      intro x
      cases x with
      | tmp t =>
        simp only [gO, gT]
        have hs : (FV.v (lookT σ.t t)).on (σ.n + i) = false := by
          cases hon : (FV.v (lookT σ.t t)).on (σ.n + i) with
          | false => rfl
          | true => have := hpre.sids t _ hon; omega
        split
        · exact hs
        · rename_i j hj
          split
          · rename_i hk
            simp only [Bool.and_eq_true] at hk
            split
            · rename_i ej hej
              split
              · cases hon : ej.f.on (σ.n + i) with
                | false => rfl
                | true =>
                  exfalso
                  have hej' := (take_get hej).2
                  obtain ⟨_, _, _, _, _, f', nb', _, _, _, _, _, _, _, r6, _, _, r9⟩ := ent_of hV hej'
                  have hid : ej.f.idsOK (okIds σ j ej.dp nb'.isSome) = true := by rw [r9]; exact r6
                  rcases ids_listed hV hJ (haf j hk.1) hej' (FV.idsOK_on hid hon) with h | h
                  · omega
                  · rw [Nat.add_sub_cancel_left, hli] at h; cases h.2
              · rfl
            · rfl
          · split
            · split
              · exact hs
              · rfl
            · rfl
      | const v => simp only [gO, constFV]; split <;> rfl
      | func f => rfl
      | global g => rfl
    have hG : ∀ x, (gO σ ops (V.take i) i o.after.toList path x).has E w (a.eval x) := gO_has hpre hV hJ ho hi hli haf path hpo
    -- an operation that makes no memory
    have same : ∀ v w', nb = none → f.has E w' v → w.grownBy w' none → K (a.put o.dst v) w' := fun v w' hn hv hg =>
      hK E _ _ (RJ_same hpre hV hJ ho q2 q3 he hli hdp (.inl (by rw [hen, hn])) (by rw [hen, hn]; simp) hg ⟨fun _ => by rw [hef]; exact hv, fun h => absurd (by rw [hpth]; exact hpo) h⟩)
    obtain ⟨dst, op, ty, pos, af, gd⟩ := o
    simp only at *
    have drop : ∀ {K' : Act → World → Prop}, Oper.wp Try.prog ⟨dst, op, ty, pos, af, none⟩ a w K' Q → Oper.wp Try.prog ⟨dst, op, ty, pos, af, gd⟩ a w K' Q := fun h => h
    apply drop
    unfold pFact at q4
    split at q4
    · rename_i tc x y
      split at q4
      · rename_i jc c hjc hgc
        split at q4
        · rename_i hk
          simp only [Bool.and_eq_true] at hk
          split at q4
          · rename_i f' hf'
            injection q4 with q4; injection q4 with r1 r2; injection r2 with r2 r3; subst r1 r2 r3
            have hc : a.eval (.tmp tc) = .bool c := by
              have := hG (.tmp tc)
              simp only [gO] at this
              rw [hgc] at this
              exact this
            -- the fact of the condition is the entry's
            have hent : ∃ ec, V[jc]? = some ec ∧ ec.f = .v (.s (.bool c)) := by
              simp only [gT, hjc] at hgc
              rw [if_pos (by simp [hk])] at hgc
              cases hv : (V.take i)[jc]? with
              | none => rw [hv] at hgc; cases hgc
              | some ec =>
                rw [hv] at hgc
                simp only at hgc
                split at hgc
                · exact ⟨ec, (take_get hv).2, hgc⟩
                · cases hgc
            obtain ⟨ec, hec1, hec2⟩ := hent
            have hr := qPick_ok (E := E) (w := w) (vx := a.eval x) (vy := a.eval y) hf'
              (fun hct => gO_has hpre hV hJ ho hi hli haf _ (by
                intro q hq
                rcases List.mem_cons.1 hq with rfl | hq
                · exact ⟨ec, c, hec1, hec2, hct⟩
                · exact hpo q hq) x)
              (fun hcf => gO_has hpre hV hJ ho hi hli haf _ (by
                intro q hq
                rcases List.mem_cons.1 hq with rfl | hq
                · exact ⟨ec, c, hec1, hec2, hcf⟩
                · exact hpo q hq) y)
            refine wp_run (w' := w) ?_ (same _ w rfl hr (same_grown w))
            unfold execOp
            simp only [hc]
            generalize a.eval = ρ at *
            cases c <;> simp [asBool]
          · cases q4
        · cases q4
      · cases q4
    · split at q4
      · rename_i p' bx pt hop
        injection q4 with q4; injection q4 with r1 r2; injection r2 with r2 r3; subst r1 r2 r3
        split at hop
        · rename_i hem
          have hnil : path = [] := by cases path with | nil => rfl | cons _ _ => simp at hem
          refine aOp_ok (id := σ.n + i) hsig ⟨dst, op, ty, pos, af, none⟩ rfl hbig hMem hop hp0 hG hGid ?_
          intro v w' hg hbx hf' hfr
          exact hK _ _ _ (RJ_new hpre hV hJ ho q2 q3 he hli hdp hen (by rw [hpth, hnil]) hg hbx (by rw [hef]; exact hf') hfr)
        · cases hop
      · split at q4
        · rename_i p' f' hop
          injection q4 with q4; injection q4 with r1 r2; injection r2 with r2 r3; subst r1 r2 r3
          exact qOp2_ok (id := σ.n + i) hsig ⟨dst, op, ty, pos, af, none⟩ rfl hbig hMem hop hp0 hG hGid (fun v w' hv hg => same v w' rfl hv hg)
        · cases q4
  · rw [if_neg hw]
    have hpo : ¬ pathOK V path := fun h => hw (hwi.2 h)
    have hnb : e.nb ≠ none → e.path = [] := by
      intro hn
      rw [hen] at hn
      rw [hpth]
      unfold pFact at q4
      split at q4
      · split at q4
        · split at q4
          · split at q4
            · injection q4 with q4; injection q4 with r1 r2; injection r2 with r2 r3; exact absurd r3.symm hn
            · cases q4
          · cases q4
        · cases q4
      · split at q4
        · rename_i hop
          split at hop
          · rename_i hem; cases path with | nil => rfl | cons _ _ => simp at hem
          · cases hop
        · split at q4
          · injection q4 with q4; injection q4 with r1 r2; injection r2 with r2 r3; exact absurd r3.symm hn
          · cases q4
    exact hK E _ _ (RJ_same hpre hV hJ ho q2 q3 he hli hdp (.inr ⟨by rw [hpth]; exact hpo, fun h => hpo (by rw [← hpth, h]; intro q hq; cases hq)⟩) hnb (same_grown w) ⟨fun h => absurd (by rw [← hpth]; exact h) hpo, fun _ => rfl⟩)
end
end Go.Proofs.Ytdpokkegkedlfaa
