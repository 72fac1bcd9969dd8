/- The reader of a code, as memory handed in to be written: pick, odd, and the call that opens it. -/
import Derived.Test.YtdpokkegkedlfaaAxL
import Derived.Deep.QuietTactic
import Derived.BigQuiet
import Derived.Laws.BitsAllLaws
import Derived.Laws.BitsLemmas
set_option maxRecDepth 100000
namespace Go.Proofs.Ytdpokkegkedlfaa
open Go.RowKit
/-- The reader has turned by one. -/
def Turned (w : World) (r p : Nat) (w' : World) : Prop :=
  w'.heap = (w.setCell ⟨r, 1, none⟩ (.int .i64 (p + 1))).heap ∧ w'.os = w.os ∧ w'.tape = w.tape ∧ w'.output = w.output
def BytesX (w : World) (A : Option Addr) (m r : Nat) : Prop := 0 < m → ∃ b off, A = some ⟨b, off, none⟩ ∧ b ≠ r ∧ ∀ j, j < m → ∃ u : Int, w.cell? ⟨b, off + j, none⟩ = some (.int .u8 u) ∧ 0 ≤ u ∧ u ≤ 255
set_option maxHeartbeats 1000000 in
theorem pick_x (r p m c : Nat) (A : Option Addr) (E : TypeId) (n : Int) (w : World) (hh : w.heap[r]? = some (.cells #[.slice A m c, .int .i64 p] E (0, 0))) (hP : p ≤ 1000000) (hm : m ≤ 2000)
    (hb : BytesX w A m r) :
    Calls Try.prog 72 #[.pointer (some ⟨r, 0, none⟩), .int .i64 n] w fun e w' => ∃ k, e = .returned (.int .i64 k) ∧ pickOK n k ∧ Turned w r p w' := by
  have hst : Turned w r p (w.setCell ⟨r, 1, none⟩ (.int .i64 (p + 1))) := ⟨rfl, rfl, rfl, rfl⟩
  have HST := Lib.hid hst
  clear hst
  have c0 : w.cell? ⟨r, 0, none⟩ = some (.slice A m c) := cell_of_row w r 0 _ _ _ hh
  have c1 : w.cell? ⟨r, 1, none⟩ = some (.int .i64 p) := cell_of_row w r 1 _ _ _ hh
  have f1 : w.frozen? ⟨r, 1, none⟩ = false := by simp [World.frozen?, hh]
  have HH := Lib.hid hh
  clear hh
  by_cases hn : n < 1
  · go_enter Try.func72, Try.ntmps72
    go_wp2
    go_ret
    exact ⟨_, rfl, ⟨fun _ => rfl, fun _ => by omega⟩, HST.out⟩
  · by_cases hm0 : m = 0
    · have e0 : ((m : Int) == 0) = true := by simp [hm0]
      have HM := Lib.hid hm0
      clear hm0
      go_enter Try.func72, Try.ntmps72
      go_wp2
      go_ret
      exact ⟨_, rfl, ⟨fun _ => rfl, fun _ => by omega⟩, HST.out⟩
    · have e0 : ((m : Int) == 0) = false := by simp; omega
      obtain ⟨b, off, rfl, hne, hcell⟩ := hb (by omega)
      by_cases hpm : p < m
      · obtain ⟨u, hu, hu0, hu1⟩ := hcell p hpm
        have hu' := (World.cell?_setCell_other w ⟨r, 1, none⟩ ⟨b, off + p, none⟩ (.int .i64 (p + 1)) (fun e => by injection e with e1 _; omega)).trans hu
        clear hcell hu
        go_enter Try.func72, Try.ntmps72
        go_wp2
        go_ret
        exact ⟨_, rfl, ⟨fun _ => by omega, fun _ => ⟨Int.emod_nonneg _ (by omega), Int.emod_lt_of_pos _ (by omega)⟩⟩, HST.out⟩
      · have q0 : 0 ≤ (p : Int) % m := Int.emod_nonneg _ (by omega)
        have q1 : (p : Int) % m < m := Int.emod_lt_of_pos _ (by omega)
        have s0 : 0 ≤ ((p : Int) * 7 + 3) % m := Int.emod_nonneg _ (by omega)
        have s1 : ((p : Int) * 7 + 3) % m < m := Int.emod_lt_of_pos _ (by omega)
        obtain ⟨u, hu, hu0, hu1⟩ := hcell ((p : Int) % m).toNat (by omega)
        obtain ⟨v, hv, hv0, hv1⟩ := hcell (((p : Int) * 7 + 3) % m).toNat (by omega)
        have hu' := (World.cell?_setCell_other w ⟨r, 1, none⟩ ⟨b, off + ((p : Int) % m).toNat, none⟩ (.int .i64 (p + 1)) (fun e => by injection e with e1 _; omega)).trans hu
        have hv' := (World.cell?_setCell_other w ⟨r, 1, none⟩ ⟨b, off + (((p : Int) * 7 + 3) % m).toNat, none⟩ (.int .i64 (p + 1)) (fun e => by injection e with e1 _; omega)).trans hv
        have d0 : 0 ≤ (p : Int) / m := Int.ediv_nonneg (by omega) (by omega)
        have d1 : (p : Int) / m ≤ p := Int.ediv_le_self _ (by omega)
        have p0 : (0 : Int) ≤ p := by omega
        have t0 : (p : Int).tmod m = (p : Int) % m := Int.tmod_eq_emod_of_nonneg p0
        have t1 : ((p : Int) * 7 + 3).tmod m = ((p : Int) * 7 + 3) % m := Int.tmod_eq_emod_of_nonneg (by omega)
        have t2 : (p : Int).tdiv m = (p : Int) / m := Int.tdiv_eq_ediv_of_nonneg p0
        generalize hE1 : (p : Int) % m = E1 at *
        generalize hE2 : ((p : Int) * 7 + 3) % m = E2 at *
        generalize hE3 : (p : Int) / m = E3 at *
        have W1 : IntKind.i64.wrap E1 = E1 := IntWalk.i64_in _ (by omega)
        have W2 : IntKind.i64.wrap ((p : Int) * 7) = (p : Int) * 7 := IntWalk.i64_in _ (by omega)
        have W3 : IntKind.i64.wrap ((p : Int) * 7 + 3) = (p : Int) * 7 + 3 := IntWalk.i64_in _ (by omega)
        have W4 : IntKind.i64.wrap E2 = E2 := IntWalk.i64_in _ (by omega)
        have W5 : IntKind.i64.wrap (u * 131) = u * 131 := IntWalk.i64_in _ (by omega)
        have W6 : IntKind.i64.wrap (v * 1117) = v * 1117 := IntWalk.i64_in _ (by omega)
        have W7 : IntKind.i64.wrap (u * 131 + v * 1117) = u * 131 + v * 1117 := IntWalk.i64_in _ (by omega)
        have W8 : IntKind.i64.wrap ((p : Int) * 29) = (p : Int) * 29 := IntWalk.i64_in _ (by omega)
        have W9 : IntKind.i64.wrap (u * 131 + v * 1117 + (p : Int) * 29) = u * 131 + v * 1117 + (p : Int) * 29 := IntWalk.i64_in _ (by omega)
        have W10 : IntKind.i64.wrap E3 = E3 := IntWalk.i64_in _ (by omega)
        have W11 : IntKind.i64.wrap (E3 * 53) = E3 * 53 := IntWalk.i64_in _ (by omega)
        have W12 : IntKind.i64.wrap (u * 131 + v * 1117 + (p : Int) * 29 + E3 * 53) = u * 131 + v * 1117 + (p : Int) * 29 + E3 * 53 := IntWalk.i64_in _ (by omega)
        have W13 : IntKind.i64.wrap u = u := IntWalk.i64_in _ (by omega)
        have W14 : IntKind.i64.wrap v = v := IntWalk.i64_in _ (by omega)
        have hx0 : 0 ≤ u * 131 + v * 1117 + (p : Int) * 29 + E3 * 53 := by omega
        have hx1 : u * 131 + v * 1117 + (p : Int) * 29 + E3 * 53 ≤ 1000000000 := by omega
        clear hcell hu hv hE1 hE2 hE3 hb
        go_enter Try.func72, Try.ntmps72
        go_wp2
        go_quiet (fail)
        go_wp2
        go_ret
        exact ⟨_, rfl, ⟨fun _ => by omega, fun _ => ⟨Int.tmod_nonneg _ (xor_nonneg hx0 hx1), Int.tmod_lt_of_pos _ (by omega)⟩⟩, HST.out⟩

/-- A reader's memory, laid open. -/
theorem rd_open {L0 : Nat → Prop} {w : World} {v0 : Value} {r1 r2 : Int} (hv0 : ∀ b, blk v0 = some b → L0 b) (h : (Bx.box [.rdr r1, .int r2]).ok 0 (EL L0) w v0) (h0 : 0 ≤ r2) :
    ∃ (g p m c : Nat) (A : Option Addr) (E : TypeId), v0 = .pointer (some ⟨g, 0, none⟩) ∧ r1 = (m : Int) ∧ r2 = (p : Int) ∧ w.heap[g]? = some (.cells #[.slice A m c, .int .i64 p] E (0, 0)) ∧ L0 g ∧ m ≤ c ∧ c ≤ maxLen ∧
      (0 < m → ∃ b off, A = some ⟨b, off, none⟩ ∧ b < w.heap.size ∧ ¬ L0 b ∧ ∀ j, j < m → ∃ u : Int, w.cell? ⟨b, off + j, none⟩ = some (.int .u8 u) ∧ 0 ≤ u ∧ u ≤ 255) := by
  obtain ⟨g, cs, E, e1, -, e2, e3⟩ := h
  obtain ⟨cl⟩ := cs
  match cl, e3 with
  | [a, b], e3 =>
    obtain ⟨⟨A, k, c, q1, q2, q3, q4, q5⟩, hb, -⟩ := e3
    have hb' : b = .int .i64 r2 := hb
    subst q1 hb'
    refine ⟨g, r2.toNat, k, c, A, E, e1, q2, (Int.toNat_of_nonneg h0).symm, ?_, hv0 g (by rw [e1]; rfl), q3, q4, q5⟩
    rw [e2, Int.toNat_of_nonneg h0]
/-- .. and shut again, one turn on. -/
theorem rd_shut {L0 : Nat → Prop} {w w' : World} {g p m c : Nat} {A : Option Addr} {E : TypeId} (hh : w.heap[g]? = some (.cells #[.slice A m c, .int .i64 p] E (0, 0))) (hL : L0 g) (hc : m ≤ c) (hc2 : c ≤ maxLen)
    (hb : 0 < m → ∃ b off, A = some ⟨b, off, none⟩ ∧ b < w.heap.size ∧ ¬ L0 b ∧ ∀ j, j < m → ∃ u : Int, w.cell? ⟨b, off + j, none⟩ = some (.int .u8 u) ∧ 0 ≤ u ∧ u ≤ 255) (ht : Turned w g p w') :
    (Bx.box [.rdr m, .int (p + 1)]).ok 0 (EL L0) w' (.pointer (some ⟨g, 0, none⟩)) ∧ w.grownBy w' (some g) := by
  obtain ⟨t1, t2, t3, t4⟩ := ht
  have hsz : w'.heap.size = w.heap.size := by rw [t1]; simp [World.setCell]
  have hblk : ∀ k, k ≠ g → w'.heap[k]? = w.heap[k]? := fun k hk => by rw [t1]; exact Below.heap_setCell w ⟨g, 1, none⟩ _ k hk
  refine ⟨⟨g, #[.slice A m c, .int .i64 (p + 1)], E, rfl, Nat.zero_le _, ?_, ⟨A, m, c, rfl, rfl, hc, hc2, fun hm => ?_⟩, rfl, trivial⟩, ⟨t2, t3, t4, by omega, fun k _ hk => hblk k (fun e => hk (by rw [e]))⟩⟩
  · rw [t1]; exact heap_setCell_same w g 1 _ E _ hh
  · obtain ⟨b, off, q1, q2, q3, q4⟩ := hb hm
    exact ⟨b, off, q1, by omega, q3, fun j hj => by
      obtain ⟨u, u1, u2⟩ := q4 j hj
      exact ⟨u, by rw [← u1]; exact World.cell?_of_block (w := w) (hblk b (fun e => q3 (e ▸ hL))), u2⟩⟩
def pickP (n k : Int) : Prop := (n < 1 → k = 0) ∧ (1 ≤ n → 0 ≤ k ∧ k < n)
def s_spec_l20Rd_pick (r1 r2 n : Int) : SgX := ⟨r1 ≤ 2000 ∧ 0 ≤ r2 ∧ r2 ≤ 1000000, [.int], (fun | [.int k] => pickP n k | _ => False), (fun | [.int k] => [.s (.int k)] | _ => []), (fun _ => .box [.rdr r1, .int (r2 + 1)])⟩
def g_spec_l20Rd_pick : Bx → List AV → Option SgX
  | .box [.rdr r1, .int r2], [.s (.int n)] => some (s_spec_l20Rd_pick r1 r2 n)
  | _, _ => none
theorem F_spec_l20Rd_pick : FunX 72 g_spec_l20Rd_pick := by
  intro bx avs sg hg hn L0 v0 args w hL hv0 hbx hA
  refine ⟨callFunc_enter Try.func72 (by kernel_rfl) (by kernel_rfl) _ w, ?_⟩
  unfold g_spec_l20Rd_pick at hg
  split at hg
  · rename_i r1 r2 n
    injection hg with hg; subst hg
    obtain ⟨n1, n2, n3⟩ := hn
    obtain ⟨g, p, m, c, A, E, rfl, rfl, rfl, hh, hLg, hc, hc2, hb⟩ := rd_open hv0 hbx n2
    match args, hA with
    | [v], hA =>
      obtain ⟨hv, -⟩ := hA
      have hv' : v = .int .i64 n := hv
      subst hv'
      refine (pick_x g p m c A E n w hh (by omega) (by omega) (fun h0 => by obtain ⟨b, off, q1, q2, q3, q4⟩ := hb h0; exact ⟨b, off, q1, fun e => q3 (e ▸ hLg), q4⟩)).mono ?_
      rintro e w' ⟨k, rfl, hk, ht⟩
      obtain ⟨s1, s2⟩ := rd_shut hh hLg hc hc2 hb ht
      exact ⟨_, [.int k], rfl, rfl, hk, rfl, s1, rfl, s2⟩
  · cases hg
theorem odd_x (r p m c : Nat) (A : Option Addr) (E : TypeId) (n : Int) (w : World) (hh : w.heap[r]? = some (.cells #[.slice A m c, .int .i64 p] E (0, 0))) (hP : p ≤ 1000000) (hm : m ≤ 2000)
    (hb : BytesX w A m r) (hn1 : -1000000 ≤ n) (hn2 : n ≤ 1000000) :
    Calls Try.prog 104 #[.pointer (some ⟨r, 0, none⟩), .int .i64 n] w fun e w' => ∃ b, e = .returned (.bool b) ∧ (n ≤ 0 → b = false) ∧ (Turned w r p w' ∨ w' = w) := by
  by_cases hn : 0 < n
  · go_enter Try.func104, Try.ntmps104
    go_wp2_with fail
    refine (pick_x r p m c A E _ _ hh hP hm hb).mono ?_
    rintro e w1 ⟨k, rfl, hk, hT⟩
    go_wp2
    go_ret
    exact ⟨_, rfl, fun h => by omega, .inl hT⟩
  · go_enter Try.func104, Try.ntmps104
    go_wp2
    go_ret
    exact ⟨rfl, .inr rfl⟩
def s_spec_l20Rd_odd (r1 r2 n : Int) : SgX := ⟨r1 ≤ 2000 ∧ 0 ≤ r2 ∧ r2 ≤ 1000000 ∧ -1000000 ≤ n ∧ n ≤ 1000000, [.bool, .int], (fun | [.bool b, .int q] => (n ≤ 0 → b = false) ∧ r2 ≤ q ∧ q ≤ r2 + 1 | _ => False), (fun | [.bool b, .int _] => [.s (.bool b)] | _ => []), (fun | [.bool _, .int q] => .box [.rdr r1, .int q] | _ => .box [])⟩
def g_spec_l20Rd_odd : Bx → List AV → Option SgX
  | .box [.rdr r1, .int r2], [.s (.int n)] => some (s_spec_l20Rd_odd r1 r2 n)
  | _, _ => none
theorem F_spec_l20Rd_odd : FunX 104 g_spec_l20Rd_odd := by
  intro bx avs sg hg hn L0 v0 args w hL hv0 hbx hA
  refine ⟨callFunc_enter Try.func104 (by kernel_rfl) (by kernel_rfl) _ w, ?_⟩
  unfold g_spec_l20Rd_odd at hg
  split at hg
  · rename_i r1 r2 n
    injection hg with hg; subst hg
    obtain ⟨n1, n2, n3, n4, n5⟩ := hn
    have hbx0 := hbx
    obtain ⟨g, p, m, c, A, E, rfl, rfl, rfl, hh, hLg, hc, hc2, hb⟩ := rd_open hv0 hbx n2
    match args, hA with
    | [v], hA =>
      obtain ⟨hv, -⟩ := hA
      have hv' : v = .int .i64 n := hv
      subst hv'
      refine (odd_x g p m c A E n w hh (by omega) (by omega) (fun h0 => by obtain ⟨b, off, q1, q2, q3, q4⟩ := hb h0; exact ⟨b, off, q1, fun e => q3 (e ▸ hLg), q4⟩) n4 n5).mono ?_
      rintro e w' ⟨b, rfl, hk, ht | rfl⟩
      · obtain ⟨s1, s2⟩ := rd_shut hh hLg hc hc2 hb ht
        exact ⟨_, [.bool b, .int (p + 1)], rfl, rfl, ⟨hk, by omega, by omega⟩, rfl, s1, rfl, s2⟩
      · exact ⟨_, [.bool b, .int p], rfl, rfl, ⟨hk, by omega, by omega⟩, rfl, hbx0, rfl, ⟨rfl, rfl, rfl, Nat.le_refl _, fun _ _ _ => rfl⟩⟩
  · cases hg
def g_spec_l20Open : List AV → Option Sg
  | [.s (.rdr n)] => some ⟨n ≤ 1048576, [.nbox [.rdr (if n ≤ 2000 then n else 2000), .int 0]]⟩
  | _ => none
theorem l20Open_x (A : Option Addr) (n c : Nat) (w : World) (hn : n ≤ 1048576) (hc : n ≤ c) (hc2 : c ≤ maxLen) :
    Calls Try.prog 67 #[.slice A n c] w fun e w' => e = .returned (.pointer (some ⟨w.heap.size, 0, none⟩)) ∧ ∃ E, w' = w.alloc (.cells #[.slice A (if n ≤ 2000 then n else 2000) c, .int .i64 0] E) := by
  unfold maxLen at hc2
  by_cases h : n ≤ 2000
  · rw [if_pos h]
    go_enter Try.func67, Try.ntmps67
    go_wp2
    go_ret
    exact ⟨rfl, _, rfl⟩
  · rw [if_neg h]
    go_enter Try.func67, Try.ntmps67
    go_wp2
    go_ret
    exact ⟨rfl, _, rfl⟩
theorem F_spec_l20Open : FunOK 67 g_spec_l20Open := by
  intro avs sg hg hn L0 args w hL hA
  refine ⟨callFunc_enter Try.func67 (by kernel_rfl) (by kernel_rfl) _ w, ?_⟩
  unfold g_spec_l20Open at hg
  split at hg
  · rename_i n
    injection hg with hg; subst hg
    obtain ⟨al⟩ := args
    match al, hA with
    | [v], hA =>
      obtain ⟨⟨A, k, c, rfl, rfl, h1, h2, h3⟩, -⟩ := hA
      have hk : k ≤ 1048576 := by have : (k : Int) ≤ 1048576 := hn; omega
      refine (l20Open_x A k c w hk h1 h2).mono ?_
      rintro e w' ⟨rfl, E, rfl⟩
      refine ⟨_, rfl, ⟨w.heap.size, _, E, rfl, Nat.le_refl _, heap_alloc_new w _, ⟨A, if k ≤ 2000 then k else 2000, c, rfl, ?_, ?_, h2, fun h0 => ?_⟩, rfl, trivial⟩, (Bel.refl w).alloc _⟩
      · split <;> (try split) <;> omega
      · split <;> omega
      · have hk0 : 0 < k := by split at h0 <;> omega
        obtain ⟨b, off, q1, q2, q3, q4⟩ := h3 hk0
        refine ⟨b, off, q1, Nat.lt_of_lt_of_le q2 ((Bel.refl w).alloc _).size, fun hl => ?_, fun j hj => ?_⟩
        · rcases hl with hl | hl
          · exact q3 hl
          · simp only [blk, Option.some.injEq] at hl; omega
        · obtain ⟨u, u1, u2⟩ := q4 j (by split at hj <;> omega)
          exact ⟨u, (World.cell?_alloc_lt w _ ⟨b, off + j, none⟩ q2).trans u1, u2⟩
  · cases hg
end Go.Proofs.Ytdpokkegkedlfaa
