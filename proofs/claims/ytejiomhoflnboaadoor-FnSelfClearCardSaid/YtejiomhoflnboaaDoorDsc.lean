/- Items of a drawn arm's code, and the memory of its parts. -/
import Derived.Test.YtejiomhoflnboaaDoorPush
set_option maxRecDepth 100000
namespace Go.Proofs.YtejiomhoflnboaaDoor
open Go.RowKit
theorem wpl_new3 {ops : Array Oper} {rest : List Oper} {o6 o7 : Oper} {Q : Exit → Act → World → Prop} {a : Act} {w : World} {t : TypeId} {d y : Nat} {r1 r2 r3 : Value} (k6 : o6.op = .alloc t) (f6 : o6.dst = some d) (u6 : o6.guard = none) (k7 : o7.op = .store t (.tmp d) (.tmp y)) (f7 : o7.dst = none) (u7 : o7.guard = none)
    (hti : tyOf t = some (.st [.nil, .nil, .nil])) (hd : d < a.tmps.size) (hn : ¬ d = y) (hy : a.tmps.getD y undef = .agg #[r1, r2, r3]) (z1 : r1.oneCell' = true) (z2 : r2.oneCell' = true) (z3 : r3.oneCell' = true)
    (h : ∀ w', w'.heap[w.heap.size]? = some (.cells #[r1, r2, r3] t (0, 0)) → (w.alloc (.cells #[.slice none 0 0, .slice none 0 0, .slice none 0 0] t)).grownBy w' (some w.heap.size) → wpList Tryd.prog ops Q rest (a.put (some d) (.pointer (some ⟨w.heap.size, 0, none⟩))) w') : wpList Tryd.prog ops Q (o6 :: o7 :: rest) a w := by
  refine wpl_alloc3 k6 u6 (by unfold stZ; rw [hti]) ?_
  rw [f6]
  have hx : (a.put (some d) (.pointer (some ⟨w.heap.size, 0, none⟩))).eval (.tmp d) = .pointer (some ⟨w.heap.size, 0, none⟩) := by rw [eval_tmp, fput_get hd, if_pos rfl]
  have hy' : (a.put (some d) (.pointer (some ⟨w.heap.size, 0, none⟩))).eval (.tmp y) = .agg #[r1, r2, r3] := by rw [eval_tmp, fput_get hd, if_neg (fun e => hn e.symm)]; exact hy
  generalize a.put (some d) (.pointer (some ⟨w.heap.size, 0, none⟩)) = a' at hx hy' h ⊢
  exact wpl_store3 k7 f7 u7 hti hx hy' (heap_alloc_new w _) z1 z2 z3 fun w' hh hgr => h w' hh hgr
theorem wpl_add {ops : Array Oper} {rest : List Oper} {o : Oper} {Q : Exit → Act → World → Prop} {a : Act} {w : World} {t t' : TypeId} {x : Nat} {c k : Int} (hop : o.op = .binOp .add t (.const (.int .i64 c)) (.tmp x) t') (hg : o.guard = none) (hx : a.tmps.getD x undef = .int .i64 k) (hb : -1000000 ≤ c + k ∧ c + k ≤ 1000000)
    (h : wpList Tryd.prog ops Q rest (a.put o.dst (.int .i64 (c + k))) w) : wpList Tryd.prog ops Q (o :: rest) a w :=
  wpList_plain hg fun _ hK => by
    have hw : IntKind.i64.wrap (c + k) = c + k := by rw [IntKind.wrap_i64]; omega
    have ex : a.eval (.const (.int .i64 c)) = .int .i64 c := rfl
    have ey : a.eval (.tmp x) = .int .i64 k := hx
    have e1 : (execOp a.eval o).run Tryd.prog w = .ok (.value (.int .i64 (c + k))) w := by
      unfold execOp
      simp only [hop]
      generalize a.eval = ρ at *
      simp [ex, ey, go_sem, hw]
    unfold Oper.wp
    rw [e1]
    exact hK _ _ h
/-- 'new(Arm); rest = nil'. -/
def chkAN (t : TypeId) (p q N : Nat) : Code → Bool
  | .region _ ops false => match ops.toList with
    | [o1, o2] => match o1.op, o2.op with
      | .alloc t1, .assign (.const (.slice none 0 0)) => match o1.dst, o2.dst with
        | some d1, some d2 => o1.guard.isNone && o2.guard.isNone && t1 == t && d1 == p && d2 == q && !(p == q) && Nat.blt p N && Nat.blt q N
        | _, _ => false
      | _, _ => false
    | _ => false
  | _ => false
theorem an_item {c : Code} {t : TypeId} {p q N : Nat} {Q : Exit → Act → World → Prop} {a : Act} {w : World} (h : chkAN t p q N c = true) (hN : a.tmps.size = N) (ht : stZ t = some [.nil, .nil, .nil])
    (hv : ∀ a', a'.tmps.size = N → a'.defers = a.defers → Same (inS (wrS c)) a a' → a'.tmps.getD p undef = .pointer (some ⟨w.heap.size, 0, none⟩) → a'.tmps.getD q undef = .slice none 0 0 → Q .normal a' (w.alloc (.cells #[.slice none 0 0, .slice none 0 0, .slice none 0 0] t))) : c.wp Tryd.prog Q a w := by
  unfold chkAN at h
  split at h
  · rename_i id ops
    obtain ⟨l⟩ := ops
    simp only at h
    split at h
    · rename_i o1 o2
      split at h
      · rename_i t1 k1 k2
        split at h
        · rename_i d1 d2 f1 f2
          simp only [Bool.and_eq_true, beq_iff_eq, Bool.not_eq_true', beq_eq_false_iff_ne, ne_eq] at h
          obtain ⟨⟨⟨⟨⟨⟨⟨g1, g2⟩, rfl⟩, rfl⟩, rfl⟩, m1⟩, m2⟩, m3⟩ := h
          have hw : ∀ o ∈ [o1, o2], ∀ s, o.dst = some s → inS (wrS (Code.region id ⟨[o1, o2]⟩ false)) s = true := fun o ho s hs => inS_iff.2 (List.mem_filterMap.2 ⟨o, ho, hs⟩)
          refine wp_region_lit ?_
          refine wpl_alloc3 k1 (none_of g1) ht ?_
          rw [f1]
          have n1 : d1 < a.tmps.size := by rw [hN]; exact blt_iff.1 m2
          refine wpl_assign k2 (none_of g2) ?_
          rw [f2]
          have n2 : d2 < (a.put (some d1) (.pointer (some ⟨w.heap.size, 0, none⟩))).tmps.size := by rw [fput_size, hN]; exact blt_iff.1 m3
          refine hv _ (by rw [fput_size, fput_size, hN]) rfl (((Same.refl _ a).put fun s e => hw o1 (by simp) s (by rw [f1]; exact e)).put fun s e => hw o2 (by simp) s (by rw [f2]; exact e)) ?_ ?_
          · rw [fput_get n2, if_neg m1, fput_get n1, if_pos rfl]
          · rw [fput_get n2, if_pos rfl]; rfl
        · cases h
      · cases h
    · cases h
  · cases h
/-- 'a := l20Arm(r, 3+r.pick(2), n)'. -/
def chkDA (fp fa : FuncId) (t : TypeId) (r e c1 c2 c3 N : Nat) : Code → Bool
  | .region _ ops false => match ops.toList with
    | [o1, o2, o3, o4, o5, o6, o7] => match o1.op, o2.op, o3.op, o4.op, o5.op, o6.op, o7.op with
      | .move (.tmp s1), .move (.tmp s2), .call ⟨.value (.func g3), ar3, _⟩, .binOp .add _ (.const (.int .i64 (.ofNat k1))) (.tmp x4) _, .call ⟨.value (.func g5), ar5, _⟩, .alloc t6, .store t7 (.tmp x7) (.tmp y7) => match o1.dst, o2.dst, o3.dst, o4.dst, o5.dst, o6.dst, o7.dst with
        | some d1, some d2, some d3, some d4, some d5, some d6, none => o1.guard.isNone && o2.guard.isNone && o3.guard.isNone && o4.guard.isNone && o5.guard.isNone && o6.guard.isNone && o7.guard.isNone
            && s1 == r && s2 == r && g3 == fp && g5 == fa && k1 == c1 && x4 == d3 && t6 == t && t7 == t && x7 == e && y7 == d5 && d6 == e
            && (match ar3.toList with | [.tmp u, .const (.int .i64 (.ofNat k))] => u == d2 && k == c2 | _ => false)
            && (match ar5.toList with | [.tmp u, .tmp v, .const (.int .i64 (.ofNat k))] => u == d1 && v == d4 && k == c3 | _ => false)
            && !(d1 == r) && !(d2 == d1) && !(d3 == d1) && !(d4 == d1) && !(d6 == d5) && Nat.blt d1 N && Nat.blt d2 N && Nat.blt d3 N && Nat.blt d4 N && Nat.blt d5 N && Nat.blt e N
        | _, _, _, _, _, _, _ => false
      | _, _, _, _, _, _, _ => false
    | _ => false
  | _ => false
set_option maxHeartbeats 4000000 in
theorem da_item {c : Code} {fp fa : FuncId} {t : TypeId} {r e c1 c2 c3 N : Nat} {Q : Exit → Act → World → Prop} {a : Act} {w : World} {vr : Value} (h : (chkDA fp fa t r e c1 c2 c3 N c && inS (wrS c) e) = true) (hN : a.tmps.size = N) (hen1 : ∀ args w, (callFunc fp args).run Tryd.prog w = .ok (.enter fp args) w) (hen2 : ∀ args w, (callFunc fa args).run Tryd.prog w = .ok (.enter fa args) w)
    (hti : tyOf t = some (.st [.nil, .nil, .nil])) (hr : a.tmps.getD r undef = vr) (hc : c1 ≤ 1000)
    (hcall : Calls Tryd.prog fp #[vr, .int .i64 (c2 : Int)] w fun en w1 => ∃ k : Int, en = .returned (.int .i64 k) ∧ (0 ≤ k ∧ k ≤ 1000) ∧ Calls Tryd.prog fa #[vr, .int .i64 ((c1 : Int) + k), .int .i64 (c3 : Int)] w1 fun en w2 => ∃ r1 r2 r3, en = .returned (.agg #[r1, r2, r3]) ∧ (r1.oneCell' = true ∧ r2.oneCell' = true ∧ r3.oneCell' = true) ∧
      ∀ a' w', a'.tmps.size = N → a'.defers = a.defers → Same (inS (wrS c)) a a' → a'.tmps.getD e undef = .pointer (some ⟨w2.heap.size, 0, none⟩) → w'.heap[w2.heap.size]? = some (.cells #[r1, r2, r3] t (0, 0)) → Bel w2 w' → w2.heap.size < w'.heap.size → Q .normal a' w') : c.wp Tryd.prog Q a w := by
  rw [Bool.and_eq_true] at h
  obtain ⟨h, he⟩ := h
  unfold chkDA at h
  split at h
  · rename_i id ops
    obtain ⟨l⟩ := ops
    simp only at h
    split at h
    · rename_i o1 o2 o3 o4 o5 o6 o7
      split at h
      · rename_i s1 s2 g3 ar3 at3 ta k1 x4 tb g5 ar5 at5 t6 t7 x7 y7 q1 q2 q3 q4 q5 q6 q7
        split at h
        · rename_i d1 d2 d3 d4 d5 d6 f1 f2 f3 f4 f5 f6 f7
          simp only [Bool.and_eq_true, beq_iff_eq, Bool.not_eq_true', beq_eq_false_iff_ne, ne_eq] at h
          obtain ⟨⟨⟨⟨⟨⟨⟨⟨⟨⟨⟨⟨⟨h, a3⟩, a5⟩, n1⟩, n2⟩, n3⟩, n4⟩, n6⟩, b1⟩, b2⟩, b3⟩, b4⟩, b5⟩, b6⟩ := h
          obtain ⟨⟨⟨⟨⟨⟨⟨⟨⟨⟨⟨⟨⟨⟨⟨⟨⟨u1, u2⟩, u3⟩, u4⟩, u5⟩, u6⟩, u7⟩, rfl⟩, rfl⟩, rfl⟩, rfl⟩, rfl⟩, rfl⟩, rfl⟩, rfl⟩, rfl⟩, rfl⟩, rfl⟩ := h
          have har3 : ar3 = #[.tmp d2, .const (.int .i64 (c2 : Int))] := by
            apply Array.ext'
            split at a3
            · rename_i u k hk
              simp only [Bool.and_eq_true, beq_iff_eq] at a3
              rw [hk, a3.1, a3.2]; rfl
            · cases a3
          have har5 : ar5 = #[.tmp d1, .tmp d4, .const (.int .i64 (c3 : Int))] := by
            apply Array.ext'
            split at a5
            · rename_i u v k hk
              simp only [Bool.and_eq_true, beq_iff_eq] at a5
              rw [hk, a5.1.1, a5.1.2, a5.2]; rfl
            · cases a5
          subst har3 har5
          have hw : ∀ o ∈ [o1, o2, o3, o4, o5, o6, o7], ∀ s, o.dst = some s → inS (wrS (Code.region id ⟨[o1, o2, o3, o4, o5, o6, o7]⟩ false)) s = true := fun o ho s hs => inS_iff.2 (List.mem_filterMap.2 ⟨o, ho, hs⟩)
          refine wp_region_lit ?_
          refine wpl_move q1 (none_of u1) ?_
          rw [f1, eval_tmp, hr]
          have N1 : d1 < a.tmps.size := by rw [hN]; exact blt_iff.1 b1
          refine wpl_move q2 (none_of u2) ?_
          rw [f2, eval_tmp, fput_get N1, if_neg (fun e => n1 e.symm), hr]
          have N2 : d2 < (a.put (some d1) vr).tmps.size := by rw [fput_size, hN]; exact blt_iff.1 b2
          refine wpl_call q3 (none_of u3) (hen1 _ _) ?_
          have ha3 : (#[.tmp d2, .const (.int .i64 (c2 : Int))] : Array Operand).map ((a.put (some d1) vr).put (some d2) vr).eval = #[vr, .int .i64 (c2 : Int)] := by
            rw [List.map_toArray]
            simp only [List.map_cons, List.map_nil]
            rw [eval_tmp, fput_get N2, if_pos rfl]; rfl
          rw [ha3]
          refine hcall.mono ?_
          rintro en w1 ⟨k, rfl, hk, hcall2⟩
          refine ⟨_, rfl, ?_⟩
          rw [f3]
          have N3 : (((a.put (some d1) vr).put (some d2) vr).put (some x4) (.int .i64 k)).tmps.size = N := by rw [fput_size, fput_size, fput_size, hN]
          have N3' : x4 < ((a.put (some d1) vr).put (some d2) vr).tmps.size := by rw [fput_size, fput_size, hN]; exact blt_iff.1 b3
          refine wpl_add q4 (none_of u4) (k := k) (by rw [fput_get N3', if_pos rfl]) (by
            have : Int.ofNat k1 = (k1 : Int) := rfl
            omega) ?_
          rw [f4]
          have N4 : d4 < (((a.put (some d1) vr).put (some d2) vr).put (some x4) (.int .i64 k)).tmps.size := by rw [N3]; exact blt_iff.1 b4
          refine wpl_call q5 (none_of u5) (hen2 _ _) ?_
          have ha5 : (#[.tmp d1, .tmp d4, .const (.int .i64 (c3 : Int))] : Array Operand).map ((((a.put (some d1) vr).put (some d2) vr).put (some x4) (.int .i64 k)).put (some d4) (.int .i64 (Int.ofNat k1 + k))).eval = #[vr, .int .i64 ((k1 : Int) + k), .int .i64 (c3 : Int)] := by
            rw [List.map_toArray]
            simp only [List.map_cons, List.map_nil]
            rw [eval_tmp, eval_tmp, fput_get (s := d1) N4, if_neg (fun e => n4 e.symm), fput_get N3', if_neg (fun e => n3 e.symm), fput_get N2, if_neg (fun e => n2 e.symm), fput_get N1, if_pos rfl, fput_get N4, if_pos rfl]
            rfl
          rw [ha5]
          refine hcall2.mono ?_
          rintro en w2 ⟨r1, r2, r3, rfl, ⟨z1, z2, z3⟩, hv⟩
          refine ⟨_, rfl, ?_⟩
          rw [f5]
          have N5 : y7 < ((((a.put (some d1) vr).put (some d2) vr).put (some x4) (.int .i64 k)).put (some d4) (.int .i64 (Int.ofNat k1 + k))).tmps.size := by rw [fput_size, N3]; exact blt_iff.1 b5
          have hS5 : Same (inS (wrS (Code.region id ⟨[o1, o2, o3, o4, o5, o6, o7]⟩ false))) a (((((a.put (some d1) vr).put (some d2) vr).put (some x4) (.int .i64 k)).put (some d4) (.int .i64 (Int.ofNat k1 + k))).put (some y7) (.agg #[r1, r2, r3])) := ((((((Same.refl (inS (wrS (Code.region id ⟨[o1, o2, o3, o4, o5, o6, o7]⟩ false))) a).put fun s e => hw o1 (by simp) s (by rw [f1]; exact e)).put fun s e => hw o2 (by simp) s (by rw [f2]; exact e)).put fun s e => hw o3 (by simp) s (by rw [f3]; exact e)).put fun s e => hw o4 (by simp) s (by rw [f4]; exact e)).put fun s e => hw o5 (by simp) s (by rw [f5]; exact e))
          have N5' : (((((a.put (some d1) vr).put (some d2) vr).put (some x4) (.int .i64 k)).put (some d4) (.int .i64 (Int.ofNat k1 + k))).put (some y7) (.agg #[r1, r2, r3])).tmps.size = N := by rw [fput_size, fput_size, N3]
          have hY : (((((a.put (some d1) vr).put (some d2) vr).put (some x4) (.int .i64 k)).put (some d4) (.int .i64 (Int.ofNat k1 + k))).put (some y7) (.agg #[r1, r2, r3])).tmps.getD y7 undef = .agg #[r1, r2, r3] := by rw [fput_get N5, if_pos rfl]
          have hD5 : (((((a.put (some d1) vr).put (some d2) vr).put (some x4) (.int .i64 k)).put (some d4) (.int .i64 (Int.ofNat k1 + k))).put (some y7) (.agg #[r1, r2, r3])).defers = a.defers := rfl
          generalize (((((a.put (some d1) vr).put (some d2) vr).put (some x4) (.int .i64 k)).put (some d4) (.int .i64 (Int.ofNat k1 + k))).put (some y7) (.agg #[r1, r2, r3])) = a5 at hS5 N5' hY hD5 ⊢
          clear ha3 ha5 N1 N2 N3 N3' N4 N5 hcall
          refine wpl_new3 q6 f6 (none_of u6) q7 f7 (none_of u7) hti (by rw [N5']; exact blt_iff.1 b6) n6 hY z1 z2 z3 fun w' hh hgr => ?_
          refine hv _ w' (by rw [fput_size, N5']) hD5 (hS5.put fun s e => hw o6 (by simp) s (by rw [f6]; exact e)) ?_ hh (bel_step ((Bel.refl w2).alloc _) hgr (fun b e => by injection e with e; omega)) (heap_lt hh)
          rw [fput_get (by rw [N5']; exact blt_iff.1 b6), if_pos rfl]
        · cases h
      · cases h
    · cases h
  · cases h

/-! ### Memory of the parts: three boxes, or three rows and three boxes -/
theorem own_blk {w : World} {base : Nat} {e : TypeId} {sz : Nat} {v : Value} {n : Nat} {xs : List Value} (h : w.ownsRow base e sz v n xs) (b : Nat) : blk v = some b ↔ v.ownBlock = some b := by
  rcases h.2 with ⟨h0, _⟩ | ⟨g, cap, cur, h0, _⟩
  · rw [h0]; simp [blk, Value.ownBlock]
  · rw [h0]; simp [blk, Value.ownBlock]
theorem reads_one {L : Nat → Prop} {w : World} {v : Value} {c : Cont} (h : Reads L w v c) : v.oneCell' = true := by
  obtain ⟨xs, ⟨A, cap, rfl, _⟩, _⟩ := h; rfl
def boxH (L : Nat → Prop) (w : World) (g : Nat) (l : List SV) : Prop := ∃ cs e, w.heap[g]? = some (.cells cs e (0, 0)) ∧ hasL (EL L) w cs.toList l
theorem rel3 {L0 : Nat → Prop} {a : Act} {w0 w : World} {N g2 g g5 : Nat} {l2 l4 l5 : List SV} (hL : LtI L0 w0) (hI : GInv w) (hN : a.tmps.size = N) (hd : a.defers = []) (hB : Bel w0 w)
    (p2 : a.tmps.getD 2 undef = .pointer (some ⟨g2, 0, none⟩)) (p3 : a.tmps.getD 3 undef = .slice none 0 0) (p4 : a.tmps.getD 4 undef = .pointer (some ⟨g, 0, none⟩)) (p5 : a.tmps.getD 5 undef = .pointer (some ⟨g5, 0, none⟩))
    (h2 : boxH (fun b => L0 b ∨ b = g2 ∨ b = g ∨ b = g5) w g2 l2) (h4 : boxH (fun b => L0 b ∨ b = g2 ∨ b = g ∨ b = g5) w g l4) (h5 : boxH (fun b => L0 b ∨ b = g2 ∨ b = g ∨ b = g5) w g5 l5)
    (f2 : l2.all (·.free) = true) (f4 : l4.all (·.free) = true) (f5 : l5.all (·.free) = true) (o2 : w0.heap.size ≤ g2) (o4 : g2 < g) (o5 : g < g5) :
    Rel ⟨w0, false, undef, L0, w0.heap.size⟩ N ⟨[(2, .s (.ptr 1 0)), (3, .s .nil), (4, .s (.ptr 2 0)), (5, .s (.ptr 3 0))], [(1, .box l2), (2, .box l4), (3, .box l5)], 4⟩ (EB L0 [(.box l2, .pointer (some ⟨g2, 0, none⟩)), (.box l4, .pointer (some ⟨g, 0, none⟩)), (.box l5, .pointer (some ⟨g5, 0, none⟩))]) a w := by
  have elv : (EB L0 [(Bx.box l2, .pointer (some ⟨g2, 0, none⟩)), (.box l4, .pointer (some ⟨g, 0, none⟩)), (.box l5, .pointer (some ⟨g5, 0, none⟩))]).lv = (EL fun b => L0 b ∨ b = g2 ∨ b = g ∨ b = g5).lv := by
    funext b; simp [EB, EL, blk, eq_comm]
  have hbx : ∀ {gg : Nat} {l : List SV}, boxH (fun b => L0 b ∨ b = g2 ∨ b = g ∨ b = g5) w gg l → l.all (·.free) = true → w0.heap.size ≤ gg → (Bx.box l).ok w0.heap.size (EB L0 [(Bx.box l2, .pointer (some ⟨g2, 0, none⟩)), (.box l4, .pointer (some ⟨g, 0, none⟩)), (.box l5, .pointer (some ⟨g5, 0, none⟩))]) w (.pointer (some ⟨gg, 0, none⟩)) := by
    rintro gg l ⟨cs, e, k1, k2⟩ hf ho
    exact ⟨gg, cs, e, rfl, ho, k1, free_hdL elv hf k2⟩
  have z2 : g2 < w.heap.size := by obtain ⟨_, _, h, _⟩ := h2; exact heap_lt h
  have z4 : g < w.heap.size := by obtain ⟨_, _, h, _⟩ := h4; exact heap_lt h
  have z5 : g5 < w.heap.size := by obtain ⟨_, _, h, _⟩ := h5; exact heap_lt h
  have hb : ∀ {gg b : Nat}, blk (.pointer (some ⟨gg, 0, none⟩)) = some b → gg = b := fun e => by injection e
  refine rel_fragB (R := [(.box l2, .pointer (some ⟨g2, 0, none⟩)), (.box l4, .pointer (some ⟨g, 0, none⟩)), (.box l5, .pointer (some ⟨g5, 0, none⟩))]) hL hI hN hd hB (fun r hr => ?_) (fun r hr => ?_) (fun r hr b h => ?_) (fun i j r r' b hi hj h1 h2 => ?_) (fun p hp => ?_) (fun p hp k hk => ?_)
  · simp only [List.mem_cons, List.not_mem_nil, or_false] at hr
    rcases hr with rfl | rfl | rfl
    · exact hbx h2 f2 o2
    · exact hbx h4 f4 (by omega)
    · exact hbx h5 f5 (by omega)
  · simp only [List.mem_cons, List.not_mem_nil, or_false] at hr
    rcases hr with rfl | rfl | rfl
    · exact bx_free_ids (show bxFree (.box l2) = true from f2) _
    · exact bx_free_ids (show bxFree (.box l4) = true from f4) _
    · exact bx_free_ids (show bxFree (.box l5) = true from f5) _
  · simp only [List.mem_cons, List.not_mem_nil, or_false] at hr
    rcases hr with rfl | rfl | rfl <;> (have := hb h; omega)
  · match i, j, hi, hj with
    | 0, 0, _, _ => rfl
    | 1, 1, _, _ => rfl
    | 2, 2, _, _ => rfl
    | 0, 1, hi, hj => simp at hi hj; subst hi hj; have := hb h1; have := hb h2; omega
    | 0, 2, hi, hj => simp at hi hj; subst hi hj; have := hb h1; have := hb h2; omega
    | 1, 0, hi, hj => simp at hi hj; subst hi hj; have := hb h1; have := hb h2; omega
    | 1, 2, hi, hj => simp at hi hj; subst hi hj; have := hb h1; have := hb h2; omega
    | 2, 0, hi, hj => simp at hi hj; subst hi hj; have := hb h1; have := hb h2; omega
    | 2, 1, hi, hj => simp at hi hj; subst hi hj; have := hb h1; have := hb h2; omega
    | n + 3, _, hi, _ => simp at hi
    | _, n + 3, _, hj => simp at hj
  · simp only [List.mem_cons, List.not_mem_nil, or_false] at hp
    rcases hp with rfl | rfl | rfl | rfl
    · exact p2
    · exact p3
    · exact p4
    · exact p5
  · simp only [List.mem_cons, List.not_mem_nil, or_false] at hp
    rcases hp with rfl | rfl | rfl | rfl <;> simp [AV.on, SV.on] at hk <;> (subst hk; simp)
theorem rel6 {L0 : Nat → Prop} {a : Act} {w0 w : World} {N g2 g g5 bs bt : Nat} {e : TypeId} {c1 c2 c3 : Value} {x y z : List Int} {l2 l4 : List SV} (hL : LtI L0 w0) (hI : GInv w) (hN : a.tmps.size = N) (hd : a.defers = []) (hB : Bel w0 w)
    (p2 : a.tmps.getD 2 undef = .pointer (some ⟨g2, 0, none⟩)) (p3 : a.tmps.getD 3 undef = .slice none 0 0) (p4 : a.tmps.getD 4 undef = .pointer (some ⟨g, 0, none⟩)) (p5 : a.tmps.getD 5 undef = .pointer (some ⟨g5, 0, none⟩))
    (w1 : w.ownsRow w0.heap.size e 1 c1 x.length (fI x)) (w2 : w.ownsRow w0.heap.size e 1 c2 y.length (fI y)) (w3 : w.ownsRow w0.heap.size e 1 c3 z.length (fI z))
    (K1 : ∀ b, blk c1 = some b → bs ≤ b ∧ b < bt) (K2 : ∀ b, blk c2 = some b → bs ≤ b ∧ b < bt) (K3 : ∀ b, blk c3 = some b → bs ≤ b ∧ b < bt)
    (d12 : ∀ b, blk c1 = some b → blk c2 = some b → False) (d13 : ∀ b, blk c1 = some b → blk c3 = some b → False) (d23 : ∀ b, blk c2 = some b → blk c3 = some b → False)
    (h2 : boxH (fun b => L0 b ∨ blk c1 = some b ∨ blk c2 = some b ∨ blk c3 = some b ∨ b = g2 ∨ b = g ∨ b = g5) w g2 l2) (h4 : boxH (fun b => L0 b ∨ blk c1 = some b ∨ blk c2 = some b ∨ blk c3 = some b ∨ b = g2 ∨ b = g ∨ b = g5) w g l4) {e5 : TypeId} (h5 : w.heap[g5]? = some (.cells #[c1, c2, c3] e5 (0, 0)))
    (f2 : l2.all (·.free) = true) (f4 : l4.all (·.free) = true) (o2 : w0.heap.size ≤ g2) (o4 : g2 < g) (o5 : g < bs) (o6 : bt ≤ g5) (o7 : bs ≤ bt) :
    Rel ⟨w0, false, undef, L0, w0.heap.size⟩ N ⟨[(2, .s (.ptr 4 0)), (3, .s .nil), (4, .s (.ptr 5 0)), (5, .s (.ptr 6 0))], [(1, .row e (.ints x)), (2, .row e (.ints y)), (3, .row e (.ints z)), (4, .box l2), (5, .box l4), (6, .box [.row 1, .row 2, .row 3])], 7⟩
      (EB L0 [(.row e (.ints x), c1), (.row e (.ints y), c2), (.row e (.ints z), c3), (.box l2, .pointer (some ⟨g2, 0, none⟩)), (.box l4, .pointer (some ⟨g, 0, none⟩)), (.box [.row 1, .row 2, .row 3], .pointer (some ⟨g5, 0, none⟩))]) a w := by
  obtain ⟨R, hR⟩ : ∃ R : List (Bx × Value), [(.row e (.ints x), c1), (.row e (.ints y), c2), (.row e (.ints z), c3), (.box l2, .pointer (some ⟨g2, 0, none⟩)), (.box l4, .pointer (some ⟨g, 0, none⟩)), (.box [.row 1, .row 2, .row 3], .pointer (some ⟨g5, 0, none⟩))] = R := ⟨_, rfl⟩
  have elv : (EB L0 R).lv = (EL fun b => L0 b ∨ blk c1 = some b ∨ blk c2 = some b ∨ blk c3 = some b ∨ b = g2 ∨ b = g ∨ b = g5).lv := by
    subst hR
    have hp : ∀ gg b : Nat, (blk (.pointer (some ⟨gg, 0, none⟩)) = some b) = (b = gg) := fun gg b => by simp [blk, eq_comm]
    funext b
    simp only [EB, EL, List.mem_cons, List.not_mem_nil, or_false, exists_eq_or_imp, exists_eq_left, hp]
  have hbx : ∀ {gg : Nat} {l : List SV}, boxH (fun b => L0 b ∨ blk c1 = some b ∨ blk c2 = some b ∨ blk c3 = some b ∨ b = g2 ∨ b = g ∨ b = g5) w gg l → l.all (·.free) = true → w0.heap.size ≤ gg → (Bx.box l).ok w0.heap.size (EB L0 R) w (.pointer (some ⟨gg, 0, none⟩)) := by
    rintro gg l ⟨cs, e, k1, k2⟩ hf ho
    exact ⟨gg, cs, e, rfl, ho, k1, free_hdL elv hf k2⟩
  have z2 : g2 < w.heap.size := by obtain ⟨_, _, h, _⟩ := h2; exact heap_lt h
  have z4 : g < w.heap.size := by obtain ⟨_, _, h, _⟩ := h4; exact heap_lt h
  have z5 : g5 < w.heap.size := heap_lt h5
  have hb : ∀ {gg b : Nat}, blk (.pointer (some ⟨gg, 0, none⟩)) = some b → gg = b := fun e => by injection e
  have key : ∀ (i : Nat) (r : Bx × Value) (b : Nat), R[i]? = some r → blk r.2 = some b → (i = 0 ∧ blk c1 = some b) ∨ (i = 1 ∧ blk c2 = some b) ∨ (i = 2 ∧ blk c3 = some b) ∨ (i = 3 ∧ g2 = b) ∨ (i = 4 ∧ g = b) ∨ (i = 5 ∧ g5 = b) := by
    intro i r b hi h
    subst hR
    match i, hi with
    | 0, hi => simp at hi; subst hi; exact .inl ⟨rfl, h⟩
    | 1, hi => simp at hi; subst hi; exact .inr (.inl ⟨rfl, h⟩)
    | 2, hi => simp at hi; subst hi; exact .inr (.inr (.inl ⟨rfl, h⟩))
    | 3, hi => simp at hi; subst hi; exact .inr (.inr (.inr (.inl ⟨rfl, hb h⟩)))
    | 4, hi => simp at hi; subst hi; exact .inr (.inr (.inr (.inr (.inl ⟨rfl, hb h⟩))))
    | 5, hi => simp at hi; subst hi; exact .inr (.inr (.inr (.inr (.inr ⟨rfl, hb h⟩))))
    | n + 6, hi => simp at hi
  have hh1 : (EB L0 R).hd 1 = c1 := by subst hR; rfl
  have hh2 : (EB L0 R).hd 2 = c2 := by subst hR; rfl
  have hh3 : (EB L0 R).hd 3 = c3 := by subst hR; rfl
  have hh4 : (EB L0 R).hd 4 = .pointer (some ⟨g2, 0, none⟩) := by subst hR; rfl
  have hh5 : (EB L0 R).hd 5 = .pointer (some ⟨g, 0, none⟩) := by subst hR; rfl
  have hh6 : (EB L0 R).hd 6 = .pointer (some ⟨g5, 0, none⟩) := by subst hR; rfl
  have main : Rel ⟨w0, false, undef, L0, w0.heap.size⟩ N ⟨[(2, .s (.ptr 4 0)), (3, .s .nil), (4, .s (.ptr 5 0)), (5, .s (.ptr 6 0))], bxsB 1 R, R.length + 1⟩ (EB L0 R) a w := by
    have hlen : R.length = 6 := by subst hR; rfl
    refine rel_fragB (R := R) hL hI hN hd hB (fun r hr => ?_) (fun r hr => ?_) (fun r hr b h => ?_) (fun i j r r' b hi hj h1 h2 => ?_) (fun p hp => ?_) (fun p hp k hk => ?_)
    · rw [← hR] at hr
      simp only [List.mem_cons, List.not_mem_nil, or_false] at hr
      rcases hr with rfl | rfl | rfl | rfl | rfl | rfl
      · exact ⟨_, w1, rfl⟩
      · exact ⟨_, w2, rfl⟩
      · exact ⟨_, w3, rfl⟩
      · exact hbx h2 f2 o2
      · exact hbx h4 f4 (by omega)
      · exact ⟨g5, _, _, rfl, by omega, h5, hh1.symm, hh2.symm, hh3.symm, trivial⟩
    · rw [← hR] at hr
      simp only [List.mem_cons, List.not_mem_nil, or_false] at hr
      rw [hlen]
      rcases hr with rfl | rfl | rfl | rfl | rfl | rfl
      · rfl
      · rfl
      · rfl
      · exact bx_free_ids (show bxFree (.box l2) = true from f2) _
      · exact bx_free_ids (show bxFree (.box l4) = true from f4) _
      · rfl
    · obtain ⟨i, hi⟩ := List.mem_iff_getElem?.1 hr
      rcases key i r b hi h with ⟨-, e⟩ | ⟨-, e⟩ | ⟨-, e⟩ | ⟨-, e⟩ | ⟨-, e⟩ | ⟨-, e⟩
      · have := K1 b e; omega
      · have := K2 b e; omega
      · have := K3 b e; omega
      · omega
      · omega
      · omega
    · rcases key i r b hi h1 with ⟨rfl, e⟩ | ⟨rfl, e⟩ | ⟨rfl, e⟩ | ⟨rfl, e⟩ | ⟨rfl, e⟩ | ⟨rfl, e⟩ <;> rcases key j r' b hj h2 with ⟨rfl, f⟩ | ⟨rfl, f⟩ | ⟨rfl, f⟩ | ⟨rfl, f⟩ | ⟨rfl, f⟩ | ⟨rfl, f⟩ <;> first
        | rfl
        | exact (d12 b e f).elim
        | exact (d12 b f e).elim
        | exact (d13 b e f).elim
        | exact (d13 b f e).elim
        | exact (d23 b e f).elim
        | exact (d23 b f e).elim
        | (have := K1 b e; omega)
        | (have := K1 b f; omega)
        | (have := K2 b e; omega)
        | (have := K2 b f; omega)
        | (have := K3 b e; omega)
        | (have := K3 b f; omega)
        | omega
    · simp only [List.mem_cons, List.not_mem_nil, or_false] at hp
      rcases hp with rfl | rfl | rfl | rfl
      · show _ = ptrIn ((EB L0 R).hd 4) 0; rw [hh4]; exact p2
      · exact p3
      · show _ = ptrIn ((EB L0 R).hd 5) 0; rw [hh5]; exact p4
      · show _ = ptrIn ((EB L0 R).hd 6) 0; rw [hh6]; exact p5
    · rw [hlen]
      simp only [List.mem_cons, List.not_mem_nil, or_false] at hp
      rcases hp with rfl | rfl | rfl | rfl <;> simp [AV.on, SV.on] at hk <;> omega
  subst hR
  exact main
end Go.Proofs.YtejiomhoflnboaaDoor
