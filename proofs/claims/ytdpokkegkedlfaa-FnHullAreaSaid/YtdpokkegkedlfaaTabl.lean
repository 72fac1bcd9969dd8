/- A table that is drawn, walked by hand: its first row may be grown in place. -/
import Derived.Test.YtdpokkegkedlfaaTab
set_option maxRecDepth 100000
namespace Go.Proofs.Ytdpokkegkedlfaa
open Go.RowKit
/-- The reader's memory, some turns on. -/
structure RdS (w0 : World) (g m c : Nat) (A : Option Addr) (E : TypeId) (q : Nat) (w : World) : Prop where
  gr : w0.grownBy w (some g)
  hh : w.heap[g]? = some (.cells #[.slice A m c, .int .i64 q] E (0, 0))
theorem RdS.step {w0 w w' : World} {g m c q : Nat} {A : Option Addr} {E : TypeId} {s : Option Nat} (h : RdS w0 g m c A E q w) (hg : g < w0.heap.size) (k : w.grownBy w' s) (hs : ∀ b, s = some b → w0.heap.size ≤ b) : RdS w0 g m c A E q w' :=
  ⟨grown_past h.gr k hs, by rw [k.block g (Nat.lt_of_lt_of_le hg h.gr.size) (fun e => by have := hs g e.symm; omega)]; exact h.hh⟩
theorem pick_r {w0 w : World} {g m c q : Nat} {A : Option Addr} {E : TypeId} (h : RdS w0 g m c A E q w) (hb : BytesX w0 A m g) (_hg : g < w0.heap.size) (hq : q ≤ 1000000) (hm : m ≤ 2000) (n : Int) :
    Calls Try.prog 72 #[.pointer (some ⟨g, 0, none⟩), .int .i64 n] w fun e w' => ∃ k, e = .returned (.int .i64 k) ∧ pickOK n k ∧ RdS w0 g m c A E (q + 1) w' ∧ w.grownBy w' (some g) := by
  have hb' : BytesX w A m g := fun h0 => by
    obtain ⟨b, off, e1, hne, hc⟩ := hb h0
    obtain ⟨u0, hu0, _⟩ := hc 0 h0
    have hbs : b < w0.heap.size := by
      rcases Nat.lt_or_ge b w0.heap.size with h1 | h1
      · exact h1
      · simp [World.cell?, Array.getElem?_eq_none h1] at hu0
    exact ⟨b, off, e1, hne, fun j hj => by
      obtain ⟨u, hu, hr⟩ := hc j hj
      exact ⟨u, by rw [← hu]; exact World.cell?_of_block (w := w0) (h.gr.block b hbs (by simpa using hne)), hr⟩⟩
  refine (pick_x g q m c A E n w h.hh hq hm hb').mono ?_
  rintro e w' ⟨k, rfl, hk, t1, t2, t3, t4⟩
  have hsz : w'.heap.size = w.heap.size := by rw [t1]; simp [World.setCell]
  have hblk : ∀ k, k ≠ g → w'.heap[k]? = w.heap[k]? := fun k hk => by rw [t1]; exact Below.heap_setCell w ⟨g, 1, none⟩ _ k hk
  have hgr : w.grownBy w' (some g) := ⟨t2, t3, t4, by omega, fun k _ hk => hblk k (fun e => hk (by rw [e]))⟩
  exact ⟨k, rfl, hk, ⟨grown_trans h.gr hgr, by rw [t1]; exact heap_setCell_same w g 1 _ E _ h.hh⟩, hgr⟩
theorem odd_r {w0 w : World} {g m c q : Nat} {A : Option Addr} {E : TypeId} (h : RdS w0 g m c A E q w) (hb : BytesX w0 A m g) (_hg : g < w0.heap.size) (hq : q ≤ 1000000) (hm : m ≤ 2000) (n : Int) (hn1 : -1000000 ≤ n) (hn2 : n ≤ 1000000) :
    Calls Try.prog 104 #[.pointer (some ⟨g, 0, none⟩), .int .i64 n] w fun e w' => ∃ b q', e = .returned (.bool b) ∧ (n ≤ 0 → b = false) ∧ q ≤ q' ∧ q' ≤ q + 1 ∧ RdS w0 g m c A E q' w' ∧ w.grownBy w' (some g) := by
  have hb' : BytesX w A m g := fun h0 => by
    obtain ⟨b, off, e1, hne, hc⟩ := hb h0
    obtain ⟨u0, hu0, _⟩ := hc 0 h0
    have hbs : b < w0.heap.size := by
      rcases Nat.lt_or_ge b w0.heap.size with h1 | h1
      · exact h1
      · simp [World.cell?, Array.getElem?_eq_none h1] at hu0
    exact ⟨b, off, e1, hne, fun j hj => by
      obtain ⟨u, hu, hr⟩ := hc j hj
      exact ⟨u, by rw [← hu]; exact World.cell?_of_block (w := w0) (h.gr.block b hbs (by simpa using hne)), hr⟩⟩
  refine (odd_x g q m c A E n w h.hh hq hm hb' hn1 hn2).mono ?_
  rintro e w' ⟨b, rfl, hk, ⟨t1, t2, t3, t4⟩ | rfl⟩
  · have hsz : w'.heap.size = w.heap.size := by rw [t1]; simp [World.setCell]
    have hblk : ∀ k, k ≠ g → w'.heap[k]? = w.heap[k]? := fun k hk => by rw [t1]; exact Below.heap_setCell w ⟨g, 1, none⟩ _ k hk
    have hgr : w.grownBy w' (some g) := ⟨t2, t3, t4, by omega, fun k _ hk => hblk k (fun e => hk (by rw [e]))⟩
    exact ⟨b, q + 1, rfl, hk, by omega, by omega, ⟨grown_trans h.gr hgr, by rw [t1]; exact heap_setCell_same w g 1 _ E _ h.hh⟩, hgr⟩
  · exact ⟨b, q, rfl, hk, by omega, by omega, h, ⟨rfl, rfl, rfl, Nat.le_refl _, fun _ _ _ => rfl⟩⟩
/-- A table while it is drawn: its rows all of one length. -/
structure TbS (w0 : World) (g m c : Nat) (A : Option Addr) (E : TypeId) (W : Nat) (v : Value) (xs : List Value) (l : List (List Bool)) (q : Nat) (w : World) : Prop where
  tab : Tab w0.heap.size 42 4 1 fB w v xs l
  len : ∀ r ∈ l, r.length = W
  rd : RdS w0 g m c A E q w
/-- .. and the row that is made. -/
structure RwS (w0 : World) (v : Value) (xs : List Value) (vr : Value) (r : List Bool) (w : World) : Prop where
  own : w.ownsRow w0.heap.size 4 1 vr r.length (fB r)
  ap : ∀ b, vr.ownBlock = some b → ¬ TabB v xs b
section
variable {w0 w w' : World} {g m c q q' W : Nat} {A : Option Addr} {E : TypeId} {v vr : Value} {xs : List Value} {l : List (List Bool)} {r : List Bool}
theorem gap (hg : g < w0.heap.size) {base : Nat} {e : TypeId} {sz : Nat} {u : Value} {n : Nat} {ys : List Value} (hb : w0.heap.size ≤ base) (h : w.ownsRow base e sz u n ys) : u.ownBlock = none ∨ u.ownBlock ≠ some g :=
  none_or fun b hb' hu => by have := (h.lt b hu).1; injection hb' with hb'; omega
theorem TbS.read (h : TbS w0 g m c A E W v xs l q w) (hg : g < w0.heap.size) (k : w.grownBy w' (some g)) (hr : RdS w0 g m c A E q' w') : TbS w0 g m c A E W v xs l q' w' :=
  ⟨h.tab.kept k (fun b hb ht => by have := (h.tab.lt b ht).1; injection hb with hb; omega), h.len, hr⟩
theorem RwS.read (h : RwS w0 v xs vr r w) (hg : g < w0.heap.size) (k : w.grownBy w' (some g)) : RwS w0 v xs vr r w' := ⟨h.own.kept k (gap hg (Nat.le_refl _) h.own), h.ap⟩
theorem TbS.alloc (h : TbS w0 g m c A E W v xs l q w) (hg : g < w0.heap.size) (o : Obj) : TbS w0 g m c A E W v xs l q (w.alloc o) :=
  ⟨h.tab.kept (grown_alloc w o none) (fun b hb => by cases hb), h.len, h.rd.step hg (grown_alloc w o none) (fun b hb => by cases hb)⟩
theorem RwS.alloc (h : RwS w0 v xs vr r w) (o : Obj) : RwS w0 v xs vr r (w.alloc o) := ⟨h.own.alloc o, h.ap⟩
/-- Behind an append onto the row. -/
theorem row_app {vr' : Value} {b : Bool} (h : TbS w0 g m c A E W v xs l q w) (hg : g < w0.heap.size) (hw : RwS w0 v xs vr r w) (ho : w'.ownsRow w0.heap.size 4 1 vr' (r.length + 1) (fB r ++ [.bool b])) (hgr : w.grownBy w' vr.ownBlock) (hbk : ∀ b, vr'.ownBlock = some b → vr.ownBlock = some b ∨ w.heap.size ≤ b) :
    TbS w0 g m c A E W v xs l q w' ∧ RwS w0 v xs vr' (r ++ [b]) w' := by
  refine ⟨⟨h.tab.kept hgr hw.ap, h.len, h.rd.step hg hgr fun b hb => (hw.own.lt b hb).1⟩, ⟨?_, fun b hb ht => ?_⟩⟩
  · rw [List.length_append, List.length_singleton]
    have : fB (r ++ [b]) = fB r ++ [.bool b] := by simp [fB]
    rw [this]; exact ho
  · rcases hbk b hb with h1 | h1
    · exact hw.ap b h1 ht
    · have := (h.tab.lt b ht).2; omega
/-- Behind an append of the row. -/
theorem tab_app {v' : Value} (h : TbS w0 g m c A E W v xs l q w) (hg : g < w0.heap.size) (hw : RwS w0 v xs vr r w) (hr : r.length = W) (ho : w'.ownsRow w0.heap.size 42 1 v' (l.length + 1) (xs ++ [vr])) (hgr : w.grownBy w' v.ownBlock) : TbS w0 g m c A E W v' (xs ++ [vr]) (l ++ [r]) q w' :=
  ⟨h.tab.push (by decide) hw.own hw.ap ho hgr, fun a ha => by
    rcases List.mem_append.1 ha with h1 | h1
    · exact h.len a h1
    · simp only [List.mem_singleton] at h1; subst h1; exact hr, h.rd.step hg hgr fun b hb => (h.tab.outer.lt b hb).1⟩
/-- Behind an append onto the first row, and its store. -/
theorem tab_first {g7 c7 : Nat} {x0 v' : Value} {r0 : List Bool} {b : Bool} (hT : TbS w0 g m c A E W (.slice (some ⟨g7, 0, none⟩) l.length c7) xs l q w) (hg : g < w0.heap.size) (hx : xs[0]? = some x0) (hr : l[0]? = some r0)
    (ho : w'.ownsRow w0.heap.size 4 1 v' (r0.length + 1) (fB r0 ++ [.bool b])) (hgr : w.grownBy w' x0.ownBlock) (hbk : ∀ b, v'.ownBlock = some b → x0.ownBlock = some b ∨ w.heap.size ≤ b) :
    w'.cell? ⟨g7, 0, none⟩ = some x0 ∧ w'.frozen? ⟨g7, 0, none⟩ = false ∧ Tab w0.heap.size 42 4 1 fB (w'.setCell ⟨g7, 0, none⟩ v') (.slice (some ⟨g7, 0, none⟩) l.length c7) (xs.set 0 v') (l.set 0 (r0 ++ [b])) ∧ RdS w0 g m c A E q (w'.setCell ⟨g7, 0, none⟩ v') := by
  have e1 : fB (r0 ++ [b]) = fB r0 ++ [.bool b] := by simp [fB]
  have ho' : w'.ownsRow w0.heap.size 4 1 v' (r0 ++ [b]).length (fB (r0 ++ [b])) := by rw [e1, List.length_append, List.length_singleton]; exact ho
  obtain ⟨t1, t2⟩ := hT.tab.regrow (by decide) rfl hx ho' hgr hbk
  have o1 := hT.tab.outer.kept hgr (none_or fun b hb hv => hT.tab.apart (by decide) hx hb hv)
  have hl : 0 < l.length := (List.getElem?_eq_some_iff.1 hr).1
  exact ⟨by rw [o1.cellAt 0 (by omega)]; exact hx, o1.frozenAt 0, t1, (hT.rd.step hg hgr fun b hb => (hT.tab.lt b (.inr ⟨0, _, hx, hb⟩)).1).step hg t2 fun b hb => by
    injection hb with hb; subst hb
    exact (hT.tab.lt _ (.inl rfl)).1⟩
end
def TbP (w : World) (g p m c : Nat) (A : Option Addr) (E : TypeId) (v : Value) (w' : World) : Prop :=
  ∃ xs l q, Tab w.heap.size 42 4 1 fB w' v xs l ∧ 1 ≤ l.length ∧ l.length ≤ 6 ∧ (∀ r, l[0]? = some r → 1 ≤ r.length ∧ r.length ≤ 7) ∧ (∀ r ∈ l, r.length ≤ 7) ∧ RdS w g m c A E q w' ∧ p ≤ q ∧ q ≤ p + 100
theorem infoBo : (Try.prog.info? 4).map (fun i => (i.zero, i.size, i.bytes)) = some (some (.bool false), 1, 1) := by kernel_rfl
theorem infoBs : (Try.prog.info? 42).map (fun i => (i.zero, i.size, i.bytes)) = some (some (.slice none 0 0), 1, 24) := by kernel_rfl
theorem one_bool (w : World) (b : Bool) (e : TypeId) : ∀ j u, [Value.bool b][j]? = some u → (w.alloc (.cells #[.bool b] e)).cell? ((⟨w.heap.size, 0, none⟩ : Addr).add j) = some u := by
  intro j u hj
  match j, hj with
  | 0, hj => simp at hj; subst hj; simp [Addr.add]
theorem one_slice (w : World) (v : Value) (e : TypeId) : ∀ j u, [v][j]? = some u → (w.alloc (.cells #[v] e)).cell? ((⟨w.heap.size, 0, none⟩ : Addr).add j) = some u := by
  intro j u hj
  match j, hj with
  | 0, hj => simp at hj; subst hj; simp [Addr.add]
theorem own_one {w : World} {base : Nat} {e : TypeId} {sz : Nat} {v : Value} {n : Nat} {xs : List Value} (h : w.ownsRow base e sz v n xs) : v.oneCell' = true := by
  rcases h.2 with ⟨rfl, _⟩ | ⟨g, cap, cur, rfl, _⟩ <;> rfl
set_option maxHeartbeats 1000000 in
theorem l20Table_x (w : World) (g p m c : Nat) (A : Option Addr) (E : TypeId) (n : Int) (hh : w.heap[g]? = some (.cells #[.slice A m c, .int .i64 p] E (0, 0))) (hP : p ≤ 100000) (hm : m ≤ 2000) (hb : BytesX w A m g) (hn1 : -1000000 ≤ n) (hn2 : n ≤ 1000000) :
    Calls Try.prog 68 #[.pointer (some ⟨g, 0, none⟩), .int .i64 n] w fun e w' => ∃ v, e = .returned v ∧ TbP w g p m c A E v w' := by
  have hgs : g < w.heap.size := heap_lt hh
  obtain ⟨iB, hiB, hzB, hsB, hbB⟩ := info_parts infoBo
  obtain ⟨iS, hiS, hzS, hsS, hbS⟩ := info_parts infoBs
  have h0 : RdS w g m c A E p w := ⟨⟨rfl, rfl, rfl, Nat.le_refl _, fun _ _ _ => rfl⟩, hh⟩
  have HB := Lib.hid hb
  clear hb hh
  go_enter Try.func68, Try.ntmps68
  go_wp2_with (go_at_call 72; first
    | (refine (pick_r h1 HB.out hgs (by omega) hm 6).mono ?_; rintro e w2 ⟨k2, rfl, hk2, h2, hg2⟩; obtain ⟨p3, p4⟩ := hk2.2 (by omega); clear hk2)
    | (refine (pick_r h0 HB.out hgs (by omega) hm 6).mono ?_; rintro e w1 ⟨k1, rfl, hk1, h1, hg1⟩; obtain ⟨p1, p2⟩ := hk1.2 (by omega); clear hk1))
  obtain ⟨H, hH1, hH2⟩ : ∃ H : Nat, 1 + k2 ≤ (H : Int) ∧ (H : Int) ≤ 1 + k2 := ⟨(1 + k2).toNat, by omega, by omega⟩
  obtain ⟨W, hW1, hW2⟩ : ∃ W : Nat, 1 + k1 ≤ (W : Int) ∧ (W : Int) ≤ 1 + k1 := ⟨(1 + k1).toNat, by omega, by omega⟩
  go_loopw [7, 8] (fun v i wr => ∃ (q : Nat) (xs : List Value) (l : List (List Bool)), l.length ≤ H ∧ i = .int .i64 l.length ∧ TbS w g m c A E W v xs l q wr ∧ p + 2 ≤ q ∧ q ≤ p + 2 + 6 * l.length) (fun _ i _ => H - (intOf i).toNat)
  case atStart =>
    refine ⟨p + 1 + 1, [], [], Nat.zero_le _, rfl, ⟨⟨?_, fun i u m h => by simp at h, fun i j u u' b h => by simp at h⟩, fun r hr => by simp at hr, h2.step hgs (grown_alloc _ _ none) (fun b hb => by cases hb)⟩, by omega, by simp⟩
    exact World.ownsRow_lit w2 #[] 0 h2.gr.size (by unfold maxLen; omega) rfl
  case round =>
    obtain ⟨q, xs, l, hk, rfl, hT, hq1, hq2⟩ := hrel
    obtain ⟨A7, c7, rfl⟩ := own_form hT.tab.outer
    by_cases hlt : (l.length : Int) < 1 + k2
    · go_wp2_with fail
      go_loopw [9, 10] (fun vr j wj => ∃ (q' : Nat) (r : List Bool), r.length ≤ W ∧ j = .int .i64 r.length ∧ TbS w g m c A E W (.slice A7 l.length c7) xs l q' wj ∧ RwS w (.slice A7 l.length c7) xs vr r wj ∧ q' = q + r.length) (fun _ j _ => W - (intOf j).toNat)
      case atStart => exact ⟨q, [], Nat.zero_le _, rfl, hT.alloc hgs _, ⟨World.ownsRow_lit wr #[] 0 hT.rd.gr.size (by unfold maxLen; omega) rfl, fun b hb ht => by
        have h1 := (hT.tab.lt b ht).2
        simp [Value.ownBlock] at hb; omega⟩, rfl⟩
      case round =>
        obtain ⟨q', r, hi, rfl, hT, hRw, rfl⟩ := hrel
        obtain ⟨A9, c9, rfl⟩ := own_form hRw.own
        by_cases hlt2 : (r.length : Int) < 1 + k1
        · go_wp2_with (first
            | (go_at_call 72; refine (pick_r hT.rd HB.out hgs (by omega) hm 4).mono ?_; rintro e w3 ⟨k3, rfl, hk3, h3, hg3⟩; have hT3 := hT.read hgs hg3 h3; have hRw3 := hRw.read hgs hg3; clear hT hRw)
            | (at_builtin; refine wpList_append_ownB rfl _ _ 42 rfl w.heap.size 4 iB (.bool false) 1 1 Try.underlying42 hiB hzB hsB hbB rfl (by decide) _ _ _ rfl (hRw3.alloc _).own ⟨w3.heap.size, 0, none⟩ 1 1 [.bool _] rfl rfl (one_bool _ _ _) (fun u hu => by simp at hu; subst hu; rfl) (by unfold maxLen; omega) (by omega) (hT3.alloc hgs _).rd.gr.size ?_; intro vr' w4 ho4 hg4 hb4; obtain ⟨hT4, hRw4⟩ := row_app (hT3.alloc hgs _) hgs (hRw3.alloc _) ho4 hg4 hb4; clear hb4))
          go_roundw
          case rel => exact ⟨q + r.length + 1, _, by simp; omega, by simp, hT4, hRw4, by simp; omega⟩
          case measure => simp [intOf]; omega
        · have hri : r.length = W := by omega
          have HRI := Lib.hid hri
          clear hri
          go_wp2_with (at_builtin; refine wpList_append_ownB rfl _ _ 22 rfl w.heap.size 42 iS (.slice none 0 0) 1 24 Try.underlying22 hiS hzS hsS hbS rfl (by decide) _ _ _ rfl (hT.alloc hgs _).tab.outer ⟨wr.heap.size, 0, none⟩ 1 1 [_] rfl rfl (one_slice _ _ _) (fun u hu => by simp at hu; subst hu; rfl) (by unfold maxLen; omega) (by omega) (hT.alloc hgs _).rd.gr.size ?_; intro v' w5 ho5 hg5 hb5; have hT5 := tab_app (hT.alloc hgs _) hgs (hRw.alloc _) HRI.out ho5 hg5; clear hT hRw hb5)
          go_roundw
          case rel => exact ⟨q + r.length, _, _, by simp; omega, by simp, hT5, by omega, by simp; omega⟩
          case measure => simp [intOf]; omega
    · obtain ⟨g7, rfl⟩ : ∃ g7, A7 = some ⟨g7, 0, none⟩ := by
        rcases hT.tab.outer.2 with ⟨h1, h2⟩ | ⟨g7, cap, cur, h1, _⟩
        · omega
        · injection h1 with h1 _ _; exact ⟨g7, h1⟩
      have hxl : xs.length = l.length := hT.tab.len
      obtain ⟨x0, hx0⟩ : ∃ x0, xs[0]? = some x0 := ⟨xs[0]'(by omega), List.getElem?_eq_getElem _⟩
      obtain ⟨r0, hr0⟩ : ∃ r0, l[0]? = some r0 := ⟨l[0]'(by omega), List.getElem?_eq_getElem _⟩
      have hrl : r0.length = W := hT.len r0 (List.mem_of_getElem? hr0)
      obtain ⟨A0, cc0, rfl⟩ := own_form (hT.tab.row 0 x0 r0 hx0 hr0)
      have HX := Lib.hid hx0
      have HR := Lib.hid hr0
      have HXL := Lib.hid hxl
      have HRL := Lib.hid hrl
      clear hx0 hr0 hxl hrl
      go_wp2_with (first
        | (go_at_call 104; refine (odd_r hT.rd HB.out hgs (by omega) hm n hn1 hn2).mono ?_; rintro e w6 ⟨b6, q6, rfl, hb6, hq6, hq7, h6, hg6⟩; have hT6 := hT.read hgs hg6 h6; clear hT; have c0 : w6.cell? ⟨g7, 0, none⟩ = some (.slice A0 r0.length cc0) := (by rw [hT6.tab.outer.cellAt 0 (by omega)]; exact HX.out))
        | (at_builtin; refine wpList_append_ownB rfl _ _ 42 rfl w.heap.size 4 iB (.bool false) 1 1 Try.underlying42 hiB hzB hsB hbB rfl (by decide) _ _ _ rfl ((hT6.alloc hgs _).tab.row 0 _ _ HX.out HR.out) ⟨w6.heap.size, 0, none⟩ 1 1 [.bool true] rfl rfl (one_bool _ _ _) (fun u hu => by simp at hu; subst hu; rfl) (by have := HRL.out; unfold maxLen; omega) (by have := HRL.out; omega) (hT6.alloc hgs _).rd.gr.size ?_; intro v' w7 ho7 hg7 hb7; obtain ⟨A8, c8, rfl⟩ := own_form ho7; obtain ⟨d0, d1, hR8, hS9⟩ := tab_first (hT6.alloc hgs _) hgs HX.out HR.out ho7 hg7 hb7; clear ho7 hg7; clear hb7))
      · have hl6 := HRL.out
        go_ret
        refine ⟨_, rfl, _, _, _, hR8, by rw [List.length_set]; omega, by rw [List.length_set]; omega, fun r hr => ?_, fun r hr => ?_, hS9, by omega, by omega⟩
        · rw [List.getElem?_set_self (by omega)] at hr
          injection hr with hr; subst hr
          rw [List.length_append, List.length_singleton]; omega
        · rcases List.mem_or_eq_of_mem_set hr with h1 | rfl
          · rw [hT6.len r h1]; omega
          · rw [List.length_append, List.length_singleton]; omega
      · have hl6 := HRL.out
        go_ret
        refine ⟨_, rfl, _, _, _, hT6.tab, by omega, by omega, fun r hr => ?_, fun r hr => ?_, hT6.rd, by omega, by omega⟩
        · rw [HR.out] at hr; injection hr with hr; subst hr; omega
        · rw [hT6.len r hr]; omega
def s_spec_l20Table (r1 r2 n : Int) : SgX := ⟨r1 ≤ 2000 ∧ 0 ≤ r2 ∧ r2 ≤ 100000 ∧ -1000000 ≤ n ∧ n ≤ 1000000, [.boolss, .int],
  (fun | [.boolss l, .int q] => 1 ≤ ilen l ∧ ilen l ≤ 6 ∧ 1 ≤ ilen (getl l 0) ∧ ilen (getl l 0) ≤ 7 ∧ (∀ i, 0 ≤ i → i < ilen l → ilen (getl l i) ≤ 7) ∧ r2 ≤ q ∧ q ≤ r2 + 100 | _ => False),
  (fun | [.boolss l, .int _] => [.s (.view (.boolss l))] | _ => []), (fun | [.boolss _, .int q] => .box [.rdr r1, .int q] | _ => .box [])⟩
def g_spec_l20Table : Bx → List AV → Option SgX
  | .box [.rdr r1, .int r2], [.s (.int n)] => some (s_spec_l20Table r1 r2 n)
  | _, _ => none
theorem F_spec_l20Table : FunX 68 g_spec_l20Table := by
  intro bx avs sg hg hn L0 v0 args w hL hv0 hbx hA
  refine ⟨callFunc_enter Try.func68 (by kernel_rfl) (by kernel_rfl) _ w, ?_⟩
  unfold g_spec_l20Table at hg
  split at hg
  · rename_i r1 r2 n
    injection hg with hg; subst hg
    obtain ⟨n1, n2, n3, n4, n5⟩ := hn
    obtain ⟨g, p, m, c, A, E, rfl, rfl, rfl, hh, hLg, hc, hc2, hb⟩ := rd_open hv0 hbx n2
    match args, hA with
    | [v], hA =>
      obtain ⟨hv, -⟩ := hA
      have hv' : v = .int .i64 n := hv
      subst hv'
      refine (l20Table_x w g p m c A E n hh (by omega) (by omega) (fun h0 => by obtain ⟨b, off, q1, q2, q3, q4⟩ := hb h0; exact ⟨b, off, q1, fun e => q3 (e ▸ hLg), q4⟩) n4 n5).mono ?_
      rintro e w' ⟨v, rfl, xs, l, q, ht, h1, h2, h3, h4, hr, h5, h6⟩
      refine ⟨v, [.boolss l, .int q], rfl, rfl, ⟨by unfold ilen; omega, by unfold ilen; omega, ?_, ?_, fun i i0 i1 => ?_, by omega, by omega⟩, ht.readsB (fun b hb' hl => by have := ht.lt b hb'; have := hL b hl; omega), ⟨g, _, E, rfl, Nat.zero_le _, hr.hh, ⟨A, m, c, rfl, rfl, hc, hc2, fun hm => ?_⟩, rfl, trivial⟩, rfl, hr.gr⟩
      · have h0 := h3 _ (List.getElem?_eq_getElem (show 0 < l.length by omega))
        unfold ilen getl; simp [List.getD_eq_getElem?_getD, show 0 < l.length by omega]; omega
      · have h0 := h3 _ (List.getElem?_eq_getElem (show 0 < l.length by omega))
        unfold ilen getl; simp [List.getD_eq_getElem?_getD, show 0 < l.length by omega]; omega
      · unfold ilen at i1
        have h0 := h4 _ (List.getElem_mem (show i.toNat < l.length by omega))
        unfold ilen getl; simp [List.getD_eq_getElem?_getD, show i.toNat < l.length by omega]; omega
      · obtain ⟨b, off, q1, q2, q3, q4⟩ := hb hm
        exact ⟨b, off, q1, Nat.lt_of_lt_of_le q2 hr.gr.size, q3, fun j hj => by
          obtain ⟨u, u1, u2⟩ := q4 j hj
          exact ⟨u, by rw [← u1]; exact World.cell?_of_block (w := w) (hr.gr.block b q2 (fun e => q3 (by injection e with e; exact e ▸ hLg))), u2⟩⟩
  · cases hg
end Go.Proofs.Ytdpokkegkedlfaa
