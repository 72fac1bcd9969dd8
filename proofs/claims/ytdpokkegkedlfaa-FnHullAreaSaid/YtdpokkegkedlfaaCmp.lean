/- slices.Clone and slices.Compact at points. -/
import Derived.Test.YtdpokkegkedlfaaPush
import Derived.StillTailTactics
import Derived.LoopN
import Derived.Deep.LoopGhost
import Derived.Lib.SlicesCompact
import Derived.Lib.SliceRun
set_option maxRecDepth 100000
namespace Go.Proofs.Ytdpokkegkedlfaa
open Go.RowKit
theorem arr_get (d : Array Pt) (i : Nat) : d.toList[i]! = d[i]! := by
  by_cases h : i < d.size
  · rw [getElem!_pos d.toList i (by simpa using h), getElem!_pos d i h]; simp
  · rw [getElem!_neg d.toList i (by simpa using h), getElem!_neg d i h]
theorem info_pt : (Try.prog.info? 74).map (fun i => (i.zero, i.size, i.bytes)) = some (some (.agg #[.int .i64 0, .int .i64 0]), 2, 16) := by kernel_rfl
theorem clone_some {w : World} {ad : Addr} {n c : Nat} {news : List Value} (hl : news.length = n * 2) (hn : n ≤ 100) (hc : ∀ j u, news[j]? = some u → w.cell? (ad.add j) = some u) (h1 : ∀ u ∈ news, u.oneCell' = true) :
    Calls Try.prog 90 #[.slice (some ad) n c] w fun e w' => ∃ u, e = .returned u ∧ w'.ownsRow w.heap.size 74 2 u n news ∧ Bel w w' := by
  obtain ⟨iP, hiP, hzP, hsP, hbP⟩ := info_parts info_pt
  have q65 : ∀ (w : World) (a : Option Addr) (n c n' c' : Nat), (binOp .eql 65 (.slice a n c) (.slice none n' c')).run Try.prog w = .ok (.bool a.isNone) w := fun w a n c n' c' => Lib.run_eql_slice_nil w _ _ a n c n' c' Try.underlying65
  have A := Lib.hid hc
  clear hc
  go_enter Try.func90, Try.ntmps90
  go_wp2_with (at_builtin; refine wpList_append_ownB rfl _ _ 65 rfl w.heap.size 74 iP (.agg #[.int .i64 0, .int .i64 0]) 2 16 Try.underlying65 hiP hzP hsP hbP rfl (by decide) _ _ _ rfl (World.ownsRow_made w #[] 0 (Nat.le_refl _) (Nat.zero_le _) rfl) ad n c news rfl hl (fun j u hj => Lib.cell?_alloc_some _ (A.out j u hj)) h1 (by unfold maxLen; omega) (by omega) (by simp) ?_; intro v' w1 hown hgr hb)
  go_ret
  refine ⟨v', rfl, by simpa using hown, ?_⟩
  exact bel_step ((Bel.refl w).alloc _) hgr (fun b e => by
    have e1 : (Value.slice (some ⟨w.heap.size, 0, none⟩) 0 0).ownBlock = some b := e
    have e' : w.heap.size = b := by simpa [Value.ownBlock] using e1
    omega)
theorem clone_nil {w : World} {n c : Nat} : Calls Try.prog 90 #[.slice none n c] w fun e w' => e = .returned (.slice none 0 0) ∧ w' = w := by
  have q65 : ∀ (w : World) (a : Option Addr) (n c n' c' : Nat), (binOp .eql 65 (.slice a n c) (.slice none n' c')).run Try.prog w = .ok (.bool a.isNone) w := fun w a n c n' c' => Lib.run_eql_slice_nil w _ _ a n c n' c' Try.underlying65
  go_enter Try.func90, Try.ntmps90
  go_wp2
  go_ret
  exact ⟨rfl, rfl⟩
theorem clone_x {L : Nat → Prop} {w : World} {v : Value} {l : List Pt} (h : Reads L w v (.pts l)) (hn : l.length ≤ 100) :
    Calls Try.prog 90 #[v] w fun e w' => ∃ u, e = .returned u ∧ w'.ownsRow w.heap.size 74 2 u l.length (ptCells l) ∧ Bel w w' := by
  obtain ⟨xs, ⟨A, cap, rfl, h1, h2, h3, h4⟩, rfl⟩ := h
  by_cases hz : l.length = 0
  · have : l = [] := List.eq_nil_of_length_eq_zero hz
    subst this
    cases A with
    | none =>
      refine clone_nil.mono ?_
      rintro e w' ⟨rfl, rfl⟩
      exact ⟨_, rfl, ⟨rfl, .inl ⟨rfl, rfl⟩⟩, Bel.refl _⟩
    | some ad => exact clone_some (news := []) rfl (Nat.zero_le _) (fun j u hj => by simp at hj) (fun u hu => by cases hu)
  · obtain ⟨b, off, rfl, hb, _, hc⟩ := h4 (by show 0 < l.length; omega)
    exact clone_some (ptCells_length l) hn (fun j u hj => by rw [Addr.add_lit]; exact hc j u hj) (fun u hu => by
      obtain ⟨j, hj⟩ := List.mem_iff_getElem?.1 hu
      obtain ⟨i, hi, ⟨_, rfl⟩ | ⟨_, rfl⟩⟩ := ptCells_get hj <;> rfl)
theorem cells_pt {w : World} {g cap base : Nat} {e : TypeId} {dk : List Pt} {n : Nat} (h : w.ownsRow base e 2 (.slice (some ⟨g, 0, none⟩) n cap) n (ptCells dk)) (hd : dk.length = n) {k : Nat} (hk : k < n) :
    w.cell? ⟨g, k * 2, none⟩ = some (.int .i64 dk[k]!.1) ∧ w.cell? ⟨g, k * 2 + 1, none⟩ = some (.int .i64 dk[k]!.2) := by
  have q := ptCells_x dk k (by omega)
  have e : dk[k]! = dk[k] := getElem!_pos dk k (by omega)
  rw [e, h.cellAt _ (by omega), h.cellAt _ (by omega)]
  exact q
theorem eqlP (n1 n2 m1 m2 : Int) (w : World) : Sem.run Try.prog (binOp .eql 74 (.agg #[.int .i64 n1, .int .i64 n2]) (.agg #[.int .i64 m1, .int .i64 m2])) w = .ok (.bool (decide (n1 = m1) && decide (n2 = m2))) w := by
  simp [go_sem]
  by_cases h1 : n1 = m1 <;> by_cases h2 : n2 = m2 <;> simp [h1, h2]
theorem neqP (n1 n2 m1 m2 : Int) (w : World) : Sem.run Try.prog (binOp .neq 74 (.agg #[.int .i64 n1, .int .i64 n2]) (.agg #[.int .i64 m1, .int .i64 m2])) w = .ok (.bool (!(decide (n1 = m1) && decide (n2 = m2)))) w := by
  simp [go_sem]
  by_cases h1 : n1 = m1 <;> by_cases h2 : n2 = m2 <;> simp [h1, h2]
theorem egdP (op : BinOp) (a b : Operand) (n1 n2 m1 m2 : Int) (w : World) : Sem.run Try.prog (eqGuard op 74 a b (.agg #[.int .i64 n1, .int .i64 n2]) (.agg #[.int .i64 m1, .int .i64 m2])) w = .ok () w := by
  cases op <;> simp [go_sem, eqGuard]
theorem grown_bel {w w' w2 : World} {r : Option Nat} (h : w.grownBy w' r) (k : Bel w' w2) : w.grownBy w2 r :=
  ⟨k.os.trans h.os, k.tape.trans h.tape, k.output.trans h.output, Nat.le_trans h.size k.size, fun i hi hne => (k.block i (Nat.lt_of_lt_of_le hi h.size)).trans (h.block i hi hne)⟩
theorem grown_two {w w' w2 : World} {r : Option Nat} (h : w.grownBy w' r) (k : w'.grownBy w2 r) : w.grownBy w2 r :=
  ⟨k.os.trans h.os, k.tape.trans h.tape, k.output.trans h.output, Nat.le_trans h.size k.size, fun i hi hne => (k.block i (Nat.lt_of_lt_of_le hi h.size) hne).trans (h.block i hi hne)⟩
theorem ptCells_set2 : ∀ (ps : List Pt) (k : Nat) (x y : Int), ((ptCells ps).set (k * 2) (.int .i64 x)).set (k * 2 + 1) (.int .i64 y) = ptCells (ps.set k (x, y))
  | [], k, x, y => by simp [ptCells]
  | p :: ps, 0, x, y => rfl
  | p :: ps, k + 1, x, y => by
    have h := ptCells_set2 ps k x y
    show ((Value.int .i64 p.1 :: .int .i64 p.2 :: ptCells ps).set ((k + 1) * 2) _).set ((k + 1) * 2 + 1) _ = Value.int .i64 p.1 :: .int .i64 p.2 :: ptCells (ps.set k (x, y))
    rw [show (k + 1) * 2 = k * 2 + 1 + 1 from by omega, List.set_cons_succ, List.set_cons_succ, List.set_cons_succ, List.set_cons_succ, h]
theorem own_sets {base g cap n : Nat} {e : TypeId} {sz : Nat} : ∀ (vs : List Value) (o : Nat) (xs : List Value) (w : World), w.ownsRow base e sz (.slice (some ⟨g, 0, none⟩) n cap) n xs → ∃ ys, (w.setCells g o vs).ownsRow base e sz (.slice (some ⟨g, 0, none⟩) n cap) n ys ∧ ys.take o = xs.take o ∧ w.grownBy (w.setCells g o vs) (some g)
  | [], o, xs, w, h => ⟨xs, h, rfl, ⟨rfl, rfl, rfl, Nat.le_refl _, fun _ _ _ => rfl⟩⟩
  | v :: vs, o, xs, w, h => by
    obtain ⟨s1, s2⟩ := h.stored o v
    obtain ⟨ys, h1, h2, h3⟩ := own_sets vs (o + 1) _ _ s1
    refine ⟨ys, h1, ?_, grown_two s2 h3⟩
    have e1 : ys.take o = (ys.take (o + 1)).take o := by rw [List.take_take, Nat.min_eq_left (by omega)]
    rw [e1, h2, List.take_take, Nat.min_eq_left (by omega), List.take_set_of_le (Nat.le_refl _)]
theorem clear2 {w : World} {g o n c : Nat} {ty : TypeId} (hn : 0 < n) (hc : ∀ j, j < n * 2 → (w.cell? ⟨g, o + j, none⟩).isSome = true) (hf : ∀ j, j < n * 2 → w.frozen? ⟨g, o + j, none⟩ = false) :
    (Builtin.clear_ #[65] ty #[.slice (some ⟨g, o, none⟩) n c]).run Try.prog w = .ok (.tuple #[]) (w.setCells g o (List.replicate (n * 2) (.int .i64 0))) := by
  have hv : ∀ w, (zeroValue 74).run Try.prog w = .ok (.agg #[.int .i64 0, .int .i64 0]) w := Try.zeroValue74
  have hzc : (Builtin.zeroCells (Value.agg #[.int .i64 0, .int .i64 0]).cells n).toList = List.replicate (n * 2) (.int .i64 0) := by
    apply List.ext_getElem
    · simp [Builtin.zeroCells, Value.cells]
    · intro i h1 h2
      have hi : i % 2 = 0 ∨ i % 2 = 1 := by omega
      rcases hi with hi | hi <;> simp [Builtin.zeroCells, Value.cells, hi]
  have hst := run_storeCells_cells (P := Try.prog) g o (List.replicate (n * 2) (.int .i64 0)) 0 w (by simpa using hc) (by simpa using hf) (by intro v hv'; rw [List.eq_of_mem_replicate hv']; rfl)
  simp only [Nat.add_zero] at hst
  obtain ⟨m, rfl⟩ : ∃ m, n = m + 1 := ⟨n - 1, by omega⟩
  simp [Builtin.clear_, run_underlying Try.underlying65, hv, hzc, hst]
theorem comp_all {l : List Pt} (h : ∀ j, j < l.length → Lib.keeps l.toArray j = true) : Lib.compactUpTo l.toArray l.length = l := by
  rw [Lib.compactUpTo_all _ _ h]
  have := Lib.range_map_get l.toArray
  simpa using this
theorem compact_some {w : World} {base g cap : Nat} {l : List Pt} (ho : w.ownsRow base 74 2 (.slice (some ⟨g, 0, none⟩) l.length cap) l.length (ptCells l)) (hn : l.length ≤ 100) :
    Calls Try.prog 95 #[.slice (some ⟨g, 0, none⟩) l.length cap] w fun e w' => e = .returned (.slice (some ⟨g, 0, none⟩) (Lib.compactUpTo l.toArray l.length).length cap) ∧ w'.ownsRow base 74 2 (.slice (some ⟨g, 0, none⟩) (Lib.compactUpTo l.toArray l.length).length cap) (Lib.compactUpTo l.toArray l.length).length (ptCells (Lib.compactUpTo l.toArray l.length)) ∧ w.grownBy w' (some g) := by
  have mixed : Try.prog.follows .mixedOrders = true := by kernel_rfl
  have hcap : l.length ≤ cap := by
    rcases ho.2 with ⟨h, _⟩ | ⟨g', cap', cur, h, _, _, h3, _⟩
    · cases h
    · injection h with _ _ h4; omega
  by_cases h2 : l.length < 2
  · have HH := Lib.hid ho
    clear ho
    go_enter Try.func95, Try.ntmps95
    go_wp2
    go_ret
    rw [comp_all fun j hj => Lib.keeps_lt_one _ j (by omega)]
    exact ⟨rfl, HH.out, ⟨rfl, rfl, rfl, Nat.le_refl _, fun _ _ _ => rfl⟩⟩
  · have HH := Lib.hid ho
    clear ho
    go_enter Try.func95, Try.ntmps95
    go_wp2
    go_loopg [3] l.length (fun g1 s3 wr => ∃ k q : Nat, 1 ≤ k ∧ k ≤ l.length ∧ l.length - k ≤ g1 ∧ s3 = .int .i64 k ∧ wr = w.drewN q ∧ ∀ j, j < k → Lib.keeps l.toArray j = true)
    case atStart => exact ⟨1, 0, Nat.le_refl _, by omega, by omega, rfl, rfl, Lib.keeps_lt_one _⟩
    case round =>
      obtain ⟨k, q, hk1, hk, hg, rfl, rfl, hall⟩ := hrel
      by_cases hlt : k < l.length
      · have A := Lib.hid hall
        clear hall
        obtain ⟨k', hk'⟩ : ∃ k', k = k' + 1 := ⟨k - 1, by omega⟩
        have hlt' : k' < l.length := by omega
        obtain ⟨c1, c2⟩ := cells_pt HH.out rfl hlt
        obtain ⟨c3, c4⟩ := cells_pt HH.out rfl hlt'
        generalize hx : l[k]! = x at c1 c2
        generalize hy : l[k']! = y at c3 c4
        have B := Lib.hid (show k = k' + 1 ∧ l[k]! = x ∧ l[k']! = y from ⟨hk', hx, hy⟩)
        have hwr : IntKind.i64.wrap ((k : Int) - 1) = (k' : Int) := by rw [IntKind.wrap_i64]; omega
        clear hx hy hk'
        obtain ⟨x1, x2⟩ := x
        obtain ⟨y1, y2⟩ := y
        simp only at c1 c2 c3 c4
        go_wp2_with fail
        refine wp_region_still_lit mixed (by kernel_rfl) ?_
        change wpStill Try.prog _ (World.drew _) (fun a' => Exit.then _ _ _ a' (World.drew _)) _ _
        obtain ⟨W2, hW2⟩ : ∃ W2, (w.drewN q).drew = W2 := ⟨_, rfl⟩
        rw [hW2]
        have d1 : W2.cell? ⟨g, k * 2, none⟩ = some (.int .i64 x1) := by rw [← hW2]; exact c1
        have d2 : W2.cell? ⟨g, k * 2 + 1, none⟩ = some (.int .i64 x2) := by rw [← hW2]; exact c2
        have d3 : W2.cell? ⟨g, k' * 2, none⟩ = some (.int .i64 y1) := by rw [← hW2]; exact c3
        have d4 : W2.cell? ⟨g, k' * 2 + 1, none⟩ = some (.int .i64 y2) := by rw [← hW2]; exact c4
        have hW3 := Lib.hid hW2
        clear hW2 c1 c2 c3 c4
        have heq' := eqlP x1 x2 y1 y2
        have hgd' := fun op a b => egdP op a b x1 x2 y1 y2
        repeat still_step
        refine wpStill_nil ?_
        by_cases hd : x1 = y1 ∧ x2 = y2
        · obtain ⟨rfl, rfl⟩ := hd
          have hb2 : Bel w W2 := hW3.out ▸ ⟨rfl, rfl, rfl, Nat.le_refl _, fun _ _ => rfl⟩
          have hO2 := Lib.hid (own_bel HH.out hb2)
          have hg2 := Lib.hid (show w.grownBy W2 (some g) from ⟨hb2.os, hb2.tape, hb2.output, hb2.size, fun k hk _ => hb2.block k hk⟩)
          clear hW3 d1 d2 d3 d4 heq' hgd' hb2
          have hb : (decide (x1 = x1) && decide (x2 = x2)) = true := by simp
          rw [hb]
          clear hb
          have hck : ¬ cap = k := by omega
          go_wp2
          go_loopg [3, 5] l.length (fun g1 s3 s5 wr => ∃ (kk k2 : Nat) (dk : List Pt), s3 = .int .i64 kk ∧ s5 = .int .i64 k2 ∧ 1 ≤ k2 ∧ k + k2 ≤ l.length ∧ l.length - (k + k2) ≤ g1 ∧ dk.length = l.length ∧ wr.ownsRow base 74 2 (.slice (some ⟨g, 0, none⟩) l.length cap) l.length (ptCells dk) ∧ w.grownBy wr (some g) ∧ Lib.CompInv l.toArray (k + k2) kk dk.toArray)
          case atStart => exact ⟨k, 1, l, rfl, rfl, Nat.le_refl _, by omega, by omega, rfl, hO2.out, hg2.out, Lib.CompInv.start A.out (Lib.keeps_neg (by omega) (by
            have e1 : ∀ i, l.toArray[i]! = l[i]! := fun i => (arr_get l.toArray i).symm
            obtain ⟨b1, b2, b3⟩ := B.out
            rw [e1, e1, b2, show k - 1 = k' by omega, b3]))⟩
          case round =>
            clear hO2 hg2
            obtain ⟨kk, k2, dk, rfl, rfl, h1, hle, hg3, hdl, hO, hG, hI⟩ := hrel
            have hkk := hI.lt
            have I2 := Lib.hid hI
            have G2 := Lib.hid hG
            have O2 := Lib.hid hO
            clear hI hG
            by_cases hlt2 : k + k2 < l.length
            · obtain ⟨j', hj'⟩ : ∃ j', k2 = j' + 1 := ⟨k2 - 1, by omega⟩
              obtain ⟨c1, c2⟩ := cells_pt hO hdl hlt2
              obtain ⟨c3, c4⟩ := cells_pt hO hdl (show k + j' < l.length by omega)
              obtain ⟨c5, c6⟩ := cells_pt hO hdl (show kk < l.length by omega)
              have f5 := hO.frozenAt (kk * 2)
              have f6 := hO.frozenAt (kk * 2 + 1)
              rw [show (k + k2) * 2 = k * 2 + k2 * 2 by omega] at c1 c2
              rw [show (k + j') * 2 = k * 2 + j' * 2 by omega] at c3 c4
              have hwr : IntKind.i64.wrap ((k2 : Int) - 1) = (j' : Int) := by rw [IntKind.wrap_i64]; omega
              have hj2 : j' < l.length - k := by omega
              have hk2 : k2 < l.length - k := by omega
              generalize hu : dk[k + k2]! = u at c1 c2
              generalize hv : dk[k + j']! = v at c3 c4
              generalize dk[kk]! = o at c5 c6
              have C := Lib.hid (show k2 = j' + 1 ∧ dk[k + k2]! = u ∧ dk[k + j']! = v from ⟨hj', hu, hv⟩)
              clear hu hv hj'
              obtain ⟨x1, x2⟩ := u
              obtain ⟨y1, y2⟩ := v
              simp only at c1 c2 c3 c4
              have hnq' := neqP x1 x2 y1 y2
              have hgd' := fun op a b => egdP op a b x1 x2 y1 y2
              clear hO
              go_wp2_with fail
              refine wp_region_still_lit mixed (by kernel_rfl) ?_
              change wpStill Try.prog _ (World.drew _) (fun a' => Exit.then _ _ _ a' (World.drew _)) _ _
              obtain ⟨W4, hW4⟩ : ∃ W4, wr.drew = W4 := ⟨_, rfl⟩
              rw [hW4]
              have d1 : W4.cell? ⟨g, k * 2 + k2 * 2, none⟩ = some (.int .i64 x1) := by rw [← hW4]; exact c1
              have d2 : W4.cell? ⟨g, k * 2 + k2 * 2 + 1, none⟩ = some (.int .i64 x2) := by rw [← hW4]; exact c2
              have d3 : W4.cell? ⟨g, k * 2 + j' * 2, none⟩ = some (.int .i64 y1) := by rw [← hW4]; exact c3
              have d4 : W4.cell? ⟨g, k * 2 + j' * 2 + 1, none⟩ = some (.int .i64 y2) := by rw [← hW4]; exact c4
              have d5 : W4.cell? ⟨g, kk * 2, none⟩ = some (.int .i64 o.1) := by rw [← hW4]; exact c5
              have d6 : W4.cell? ⟨g, kk * 2 + 1, none⟩ = some (.int .i64 o.2) := by rw [← hW4]; exact c6
              have d7 : W4.frozen? ⟨g, kk * 2, none⟩ = false := by rw [← hW4]; exact f5
              have d8 : W4.frozen? ⟨g, kk * 2 + 1, none⟩ = false := by rw [← hW4]; exact f6
              have hb4 : Bel wr W4 := hW4 ▸ ⟨rfl, rfl, rfl, Nat.le_refl _, fun _ _ => rfl⟩
              have O4 := Lib.hid (own_bel O2.out hb4)
              have G4 := Lib.hid (show w.grownBy W4 (some g) from grown_bel G2.out hb4)
              have E := Lib.hid (show l.toArray[k + k2]! = (x1, x2) ∧ l.toArray[k + k2 - 1]! = (y1, y2) from by
                obtain ⟨b1, b2, b3⟩ := C.out
                have h1 := I2.out.high (k + k2) (by omega)
                have h2 := I2.out.high (k + k2 - 1) (by omega)
                rw [← arr_get dk.toArray] at h1 h2
                rw [← h1, ← h2, show k + k2 - 1 = k + j' by omega]
                exact ⟨b2, b3⟩)
              clear hW4 hb4 c1 c2 c3 c4 c5 c6 f5 f6 O2 G2 B C
              repeat still_step
              refine wpStill_nil ?_
              by_cases hd : x1 = y1 ∧ x2 = y2
              · obtain ⟨rfl, rfl⟩ := hd
                have hb : (!decide (x1 = x1) || !decide (x2 = x2)) = false := by simp
                rw [hb]
                clear hb hnq' hgd' d1 d2 d3 d4 d5 d6 d7 d8
                go_wp2
                go_roundg (l.length - (k + (k2 + 1)))
                case measure => omega
                case rel => exact ⟨kk, k2 + 1, dk, rfl, by go_num, by omega, by omega, Nat.le_refl _, hdl, O4.out, G4.out, I2.out.skip (Lib.keeps_neg (by omega) (by rw [E.out.1, E.out.2]))⟩
              · have hb : (!decide (x1 = y1) || !decide (x2 = y2)) = true := by
                  by_cases e1 : x1 = y1 <;> by_cases e2 : x2 = y2 <;> simp [e1, e2] <;> exact hd ⟨e1, e2⟩
                rw [hb]
                clear hb hnq' hgd' d3 d4
                have D := Lib.hid hd
                clear hd
                go_wp2
                go_roundg (l.length - (k + (k2 + 1)))
                case measure => omega
                case rel =>
                  obtain ⟨s1, s2⟩ := O4.out.stored (kk * 2) (.int .i64 x1)
                  obtain ⟨s3, s4⟩ := s1.stored (kk * 2 + 1) (.int .i64 x2)
                  rw [ptCells_set2] at s3
                  refine ⟨kk + 1, k2 + 1, dk.set kk (x1, x2), by go_num, by go_num, by omega, by omega, Nat.le_refl _, by rw [List.length_set]; exact hdl, s3, grown_two (grown_two G4.out s2) s4, ?_⟩
                  have hI := I2.out.keep (m := k + k2) (by simpa using hlt2) (Lib.keeps_pos (by
                    rw [E.out.1, E.out.2]
                    intro e
                    exact D.out ⟨congrArg Prod.fst e, congrArg Prod.snd e⟩))
                  rw [E.out.1] at hI
                  have e1 : (dk.set kk (x1, x2)).toArray = dk.toArray.setIfInBounds kk (x1, x2) := by simp
                  rw [e1]
                  exact hI
            · have hend : k + k2 = l.length := by omega
              have hcl := fun ty => clear2 (w := wr) (g := g) (o := kk * 2) (n := l.length - kk) (c := cap - kk) (ty := ty) (by omega)
                (fun j hj => by
                  rw [O2.out.cellAt _ (by omega)]
                  have hl : kk * 2 + j < (ptCells dk).length := by rw [ptCells_length]; omega
                  rw [List.getElem?_eq_getElem hl]; rfl) (fun j hj => O2.out.frozenAt _)
              have hck : ¬ cap = kk := by omega
              have hkl : kk ≤ l.length := by omega
              have hkc : kk ≤ cap := by omega
              clear hO
              go_wp2
              go_ret
              obtain ⟨ys, y1, y2, y3⟩ := own_sets (List.replicate ((l.length - kk) * 2) (.int .i64 0)) (kk * 2) _ wr O2.out
              have hI := I2.out
              rw [hend] at hI
              have hlen := hI.len
              have hct : dk.take kk = Lib.compactUpTo l.toArray l.length := by
                apply List.ext_getElem?
                intro i
                by_cases hi : i < kk
                · rw [hI.low i hi, List.getElem?_take_of_lt hi, ← arr_get, List.getElem?_eq_getElem (by omega)]
                  exact congrArg some (getElem!_pos dk i (by omega)).symm
                · rw [List.getElem?_eq_none (by rw [List.length_take]; omega), List.getElem?_eq_none (by omega)]
              have h := own_take y1 hkl
              rw [y2, ptCells_take, hct] at h
              rw [hlen]
              exact ⟨rfl, h, grown_two G2.out y3⟩
        · have hb : (decide (x1 = y1) && decide (x2 = y2)) = false := by
            by_cases e1 : x1 = y1 <;> by_cases e2 : x2 = y2 <;> simp [e1, e2] <;> exact hd ⟨e1, e2⟩
          rw [hb]
          clear d1 d2 d3 d4 heq' hgd'
          go_wp2
          go_roundg (l.length - (k + 1))
          case measure => omega
          case rel =>
            refine ⟨k + 1, q + 1, by omega, by omega, Nat.le_refl _, by go_num, hW3.out.symm, fun j hj => ?_⟩
            by_cases e : j = k
            · subst e
              obtain ⟨b1, b2, b3⟩ := B.out
              exact Lib.keeps_pos (by
                rw [← arr_get, ← arr_get]
                show l[j]! ≠ l[j - 1]!
                rw [b2, show j - 1 = k' by omega, b3]
                intro e
                exact hd ⟨congrArg Prod.fst e, congrArg Prod.snd e⟩)
            · exact A.out j (by omega)
      · have hkl : k = l.length := by omega
        subst hkl
        go_wp2
        go_ret
        rw [comp_all hall]
        exact ⟨rfl, own_bel HH.out ⟨rfl, rfl, rfl, Nat.le_refl _, fun _ _ => rfl⟩, ⟨rfl, rfl, rfl, Nat.le_refl _, fun _ _ _ => rfl⟩⟩
theorem compact_x {w : World} {base : Nat} {u : Value} {l : List Pt} (ho : w.ownsRow base 74 2 u l.length (ptCells l)) (hn : l.length ≤ 100) :
    Calls Try.prog 95 #[u] w fun e w' => ∃ u', e = .returned u' ∧ w'.ownsRow base 74 2 u' (Lib.compactUpTo l.toArray l.length).length (ptCells (Lib.compactUpTo l.toArray l.length)) ∧ w.grownBy w' (blk u) ∧ blk u' = blk u := by
  have ho' := ho
  rcases ho.2 with ⟨rfl, hz⟩ | ⟨g, cap, cur, rfl, hbg, hgg, hnc, hcm, hcs, htake⟩
  · have hl : l = [] := List.eq_nil_of_length_eq_zero hz
    subst hl
    have HH := Lib.hid ho'
    clear ho ho'
    go_enter Try.func95, Try.ntmps95
    go_wp2
    go_ret
    exact ⟨_, rfl, HH.out, ⟨rfl, rfl, rfl, Nat.le_refl _, fun _ _ _ => rfl⟩, rfl⟩
  · refine (compact_some ho' hn).mono ?_
    rintro e w' ⟨rfl, h1, h2⟩
    exact ⟨_, rfl, h1, h2, rfl⟩
end Go.Proofs.Ytdpokkegkedlfaa
