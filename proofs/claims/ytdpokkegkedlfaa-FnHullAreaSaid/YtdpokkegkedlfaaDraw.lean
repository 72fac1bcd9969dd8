/- The reader of a code (pick, odd): each call hands back a number in its range and turns the reader alone. -/
import Derived.Test.YtdpokkegkedlfaaBase
import Derived.Test.YtdpokkegkedlfaaPure
import Derived.Deep.QuietTactic
import Derived.BigQuiet
import Derived.Laws.BitsAllLaws
import Derived.Laws.BitsLemmas
namespace Go.Proofs.Ytdpokkegkedlfaa
open Go.RowKit
/-- The slice value reads as bytes, in a block below g. -/
def BytesIn (w : World) (A : Option Addr) (n : Nat) (g : Nat) : Prop :=
  0 < n → ∃ b off, A = some ⟨b, off, none⟩ ∧ b < g ∧ ∀ j, j < n → ∃ u : Int, w.cell? ⟨b, off + j, none⟩ = some (.int .u8 u) ∧ 0 ≤ u ∧ u ≤ 255
/-- Block r is a reader that has been asked at most P times. -/
def RdOK (w : World) (r P : Nat) : Prop :=
  ∃ (A : Option Addr) (n c p : Nat), w.heap[r]? = some (.cells #[.slice A n c, .int .i64 p] 115 (0, 0)) ∧ p ≤ P ∧ n ≤ 2000 ∧ BytesIn w A n r
/-- Block r alone has turned, of what was there. -/
def Only (r : Nat) (w w' : World) : Prop := w.grownBy w' (some r)
theorem heap_lt {w : World} {r : Nat} {o : Obj} (h : w.heap[r]? = some o) : r < w.heap.size := by
  rcases Nat.lt_or_ge r w.heap.size with hlt | hge
  · exact hlt
  · rw [Array.getElem?_eq_none hge] at h; cases h
theorem RdOK.lt {w : World} {r P : Nat} (h : RdOK w r P) : r < w.heap.size := by
  obtain ⟨A, n, c, p, hb, _⟩ := h; exact heap_lt hb
theorem BytesIn.keep {w w' : World} {A : Option Addr} {n g : Nat} (h : BytesIn w A n g) (hk : ∀ b o, b < g → w'.cell? ⟨b, o, none⟩ = w.cell? ⟨b, o, none⟩) : BytesIn w' A n g := by
  intro hn
  obtain ⟨b, off, rfl, hb, hc⟩ := h hn
  exact ⟨b, off, rfl, hb, fun j hj => by obtain ⟨u, h1, h2⟩ := hc j hj; exact ⟨u, (hk _ _ hb).trans h1, h2⟩⟩
theorem l20Open_c (v : Value) (A : Option Addr) (n c : Nat) (w : World) (hv : v = .slice A n c) (hn : n ≤ 1048576) (hc : n ≤ c) (hc2 : c ≤ maxLen) (hb : BytesIn w A n w.heap.size) :
    Calls Try.prog 67 #[v] w fun e w' => ∃ r, e = .returned (.pointer (some ⟨r, 0, none⟩)) ∧ RdOK w' r 0 ∧ w.heap.size ≤ r ∧ Bel w w' := by
  subst hv
  unfold maxLen at hc2
  by_cases h : n ≤ 2000
  · go_enter Try.func67, Try.ntmps67
    go_wp2
    go_ret
    refine ⟨_, rfl, ⟨A, n, c, 0, heap_alloc_new w _, Nat.le_refl _, h, ?_⟩, Nat.le_refl _, (Bel.refl _).alloc _⟩
    exact hb.keep fun b o hlt => World.cell?_alloc_lt w _ ⟨b, o, none⟩ hlt
  · go_enter Try.func67, Try.ntmps67
    go_wp2
    go_ret
    refine ⟨_, rfl, ⟨A, 2000, c, 0, heap_alloc_new w _, Nat.le_refl _, Nat.le_refl _, ?_⟩, Nat.le_refl _, (Bel.refl _).alloc _⟩
    intro _
    obtain ⟨b, off, rfl, hb1, hcell⟩ := hb (by omega)
    exact ⟨b, off, rfl, hb1, fun j hj => by
      obtain ⟨u, h1, h2⟩ := hcell j (by omega)
      exact ⟨u, (World.cell?_alloc_lt w _ ⟨b, off + j, none⟩ hb1).trans h1, h2⟩⟩
def pickOK (n k : Int) : Prop := (n < 1 → k = 0) ∧ (1 ≤ n → 0 ≤ k ∧ k < n)
theorem Only.refl (r : Nat) (w : World) : Only r w w := World.grownBy.refl w _
theorem RdOK.step {w : World} {r P : Nat} {A : Option Addr} {n c p : Nat} (h : w.heap[r]? = some (.cells #[.slice A n c, .int .i64 p] 115 (0, 0))) (hp : p ≤ P) (hn : n ≤ 2000) (hb : BytesIn w A n r) :
    RdOK (w.setCell ⟨r, 1, none⟩ (.int .i64 (p + 1))) r (P + 1) ∧ Only r w (w.setCell ⟨r, 1, none⟩ (.int .i64 (p + 1))) := by
  refine ⟨⟨A, n, c, p + 1, ?_, by omega, hn, ?_⟩, ⟨rfl, rfl, rfl, by simp [World.setCell], fun k hk hne => ?_⟩⟩
  · simp [World.setCell, Array.getElem?_modify, h]
  · exact hb.keep fun b o hlt => World.cell?_setCell_other w _ ⟨b, o, none⟩ _ (fun e => by injection e with e1 _; omega)
  · exact Below.heap_setCell w ⟨r, 1, none⟩ _ k (fun e => hne (by rw [e]))
theorem Only.drewN {r : Nat} {w w' : World} (h : Only r w w') (n : Nat) : Only r w (w'.drewN n) := ⟨h.os, h.tape, h.output, h.size, h.block⟩
theorem ofInt_i64 (a : Nat) (ha : a < 9223372036854775808) : (BitVec.ofInt 64 (a : Int)).toNat = a := by
  rw [BitVec.ofInt_natCast, BitVec.toNat_ofNat]; exact Nat.mod_eq_of_lt (by omega)
theorem xor_nonneg {X : Int} (h0 : 0 ≤ X) (h1 : X ≤ 1000000000) : 0 ≤ bits .xor .i64 X (X / 64) := by
  obtain ⟨a, rfl⟩ := Int.eq_ofNat_of_zero_le h0
  rw [show ((a : Int) / 64) = ((a / 64 : Nat) : Int) from by omega]
  have hx : a ^^^ (a / 64) < 2 ^ 63 := Nat.xor_lt_two_pow (by omega) (by omega)
  have e : bits .xor .i64 (a : Int) ((a / 64 : Nat) : Int) = IntKind.i64.wrap ((BitVec.ofInt 64 (a : Int) ^^^ BitVec.ofInt 64 ((a / 64 : Nat) : Int)).toNat : Int) := rfl
  rw [e, BitVec.toNat_xor, ofInt_i64 a (by omega), ofInt_i64 (a / 64) (by omega), IntKind.wrap_i64]
  omega
set_option maxHeartbeats 1000000 in
theorem pick_c (r P : Nat) (n : Int) (w : World) (h : RdOK w r P) (hP : P ≤ 1000000) :
    Calls Try.prog 72 #[.pointer (some ⟨r, 0, none⟩), .int .i64 n] w fun e w' => ∃ k, e = .returned (.int .i64 k) ∧ pickOK n k ∧ RdOK w' r (P + 1) ∧ Only r w w' := by
  obtain ⟨A, m, c, p, hh, hp, hm, hb⟩ := h
  have hst := RdOK.step hh hp hm hb
  have HST := Lib.hid hst
  clear hst
  have c0 : w.cell? ⟨r, 0, none⟩ = some (.slice A m c) := cell_of_row w r 0 _ _ _ hh
  have c1 : w.cell? ⟨r, 1, none⟩ = some (.int .i64 p) := cell_of_row w r 1 _ _ _ hh
  have f1 : w.frozen? ⟨r, 1, none⟩ = false := by simp [World.frozen?, hh]
  have HH := Lib.hid hh
  clear hh
  by_cases hn : n < 1
  · go_enter Try.func72, Try.ntmps72
    go_wp2
    go_ret
    exact ⟨_, rfl, ⟨fun _ => rfl, fun _ => by omega⟩, HST.out⟩
  · by_cases hm0 : m = 0
    · have e0 : ((m : Int) == 0) = true := by simp [hm0]
      have HM := Lib.hid hm0
      clear hm0
      go_enter Try.func72, Try.ntmps72
      go_wp2
      go_ret
      exact ⟨_, rfl, ⟨fun _ => rfl, fun _ => by omega⟩, HST.out⟩
    · have e0 : ((m : Int) == 0) = false := by simp; omega
      obtain ⟨b, off, rfl, hbr, hcell⟩ := hb (by omega)
      have hne : b ≠ r := by omega
      by_cases hpm : p < m
      · obtain ⟨u, hu, hu0, hu1⟩ := hcell p hpm
        have hu' := (World.cell?_setCell_other w ⟨r, 1, none⟩ ⟨b, off + p, none⟩ (.int .i64 (p + 1)) (fun e => by injection e with e1 _; omega)).trans hu
        clear hcell hu
        go_enter Try.func72, Try.ntmps72
        go_wp2
        go_ret
        exact ⟨_, rfl, ⟨fun _ => by omega, fun _ => ⟨Int.emod_nonneg _ (by omega), Int.emod_lt_of_pos _ (by omega)⟩⟩, HST.out⟩
      · have q0 : 0 ≤ (p : Int) % m := Int.emod_nonneg _ (by omega)
        have q1 : (p : Int) % m < m := Int.emod_lt_of_pos _ (by omega)
        have s0 : 0 ≤ ((p : Int) * 7 + 3) % m := Int.emod_nonneg _ (by omega)
        have s1 : ((p : Int) * 7 + 3) % m < m := Int.emod_lt_of_pos _ (by omega)
        obtain ⟨u, hu, hu0, hu1⟩ := hcell ((p : Int) % m).toNat (by omega)
        obtain ⟨v, hv, hv0, hv1⟩ := hcell (((p : Int) * 7 + 3) % m).toNat (by omega)
        have hu' := (World.cell?_setCell_other w ⟨r, 1, none⟩ ⟨b, off + ((p : Int) % m).toNat, none⟩ (.int .i64 (p + 1)) (fun e => by injection e with e1 _; omega)).trans hu
        have hv' := (World.cell?_setCell_other w ⟨r, 1, none⟩ ⟨b, off + (((p : Int) * 7 + 3) % m).toNat, none⟩ (.int .i64 (p + 1)) (fun e => by injection e with e1 _; omega)).trans hv
        have d0 : 0 ≤ (p : Int) / m := Int.ediv_nonneg (by omega) (by omega)
        have d1 : (p : Int) / m ≤ p := Int.ediv_le_self _ (by omega)
        have p0 : (0 : Int) ≤ p := by omega
        have t0 : (p : Int).tmod m = (p : Int) % m := Int.tmod_eq_emod_of_nonneg p0
        have t1 : ((p : Int) * 7 + 3).tmod m = ((p : Int) * 7 + 3) % m := Int.tmod_eq_emod_of_nonneg (by omega)
        have t2 : (p : Int).tdiv m = (p : Int) / m := Int.tdiv_eq_ediv_of_nonneg p0
        generalize hE1 : (p : Int) % m = E1 at *
        generalize hE2 : ((p : Int) * 7 + 3) % m = E2 at *
        generalize hE3 : (p : Int) / m = E3 at *
        have W1 : IntKind.i64.wrap E1 = E1 := IntWalk.i64_in _ (by omega)
        have W2 : IntKind.i64.wrap ((p : Int) * 7) = (p : Int) * 7 := IntWalk.i64_in _ (by omega)
        have W3 : IntKind.i64.wrap ((p : Int) * 7 + 3) = (p : Int) * 7 + 3 := IntWalk.i64_in _ (by omega)
        have W4 : IntKind.i64.wrap E2 = E2 := IntWalk.i64_in _ (by omega)
        have W5 : IntKind.i64.wrap (u * 131) = u * 131 := IntWalk.i64_in _ (by omega)
        have W6 : IntKind.i64.wrap (v * 1117) = v * 1117 := IntWalk.i64_in _ (by omega)
        have W7 : IntKind.i64.wrap (u * 131 + v * 1117) = u * 131 + v * 1117 := IntWalk.i64_in _ (by omega)
        have W8 : IntKind.i64.wrap ((p : Int) * 29) = (p : Int) * 29 := IntWalk.i64_in _ (by omega)
        have W9 : IntKind.i64.wrap (u * 131 + v * 1117 + (p : Int) * 29) = u * 131 + v * 1117 + (p : Int) * 29 := IntWalk.i64_in _ (by omega)
        have W10 : IntKind.i64.wrap E3 = E3 := IntWalk.i64_in _ (by omega)
        have W11 : IntKind.i64.wrap (E3 * 53) = E3 * 53 := IntWalk.i64_in _ (by omega)
        have W12 : IntKind.i64.wrap (u * 131 + v * 1117 + (p : Int) * 29 + E3 * 53) = u * 131 + v * 1117 + (p : Int) * 29 + E3 * 53 := IntWalk.i64_in _ (by omega)
        have W13 : IntKind.i64.wrap u = u := IntWalk.i64_in _ (by omega)
        have W14 : IntKind.i64.wrap v = v := IntWalk.i64_in _ (by omega)
        have hx0 : 0 ≤ u * 131 + v * 1117 + (p : Int) * 29 + E3 * 53 := by omega
        have hx1 : u * 131 + v * 1117 + (p : Int) * 29 + E3 * 53 ≤ 1000000000 := by omega
        clear hcell hu hv hE1 hE2 hE3 hb
        go_enter Try.func72, Try.ntmps72
        go_wp2
        go_quiet (fail)
        go_wp2
        go_ret
        exact ⟨_, rfl, ⟨fun _ => by omega, fun _ => ⟨Int.tmod_nonneg _ (xor_nonneg hx0 hx1), Int.tmod_lt_of_pos _ (by omega)⟩⟩, HST.out.1, HST.out.2.drewN _⟩
end Go.Proofs.Ytdpokkegkedlfaa
