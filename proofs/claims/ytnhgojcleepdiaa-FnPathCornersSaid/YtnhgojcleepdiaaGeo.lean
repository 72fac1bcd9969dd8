/- test -/
import Derived.Test.YtnhgojcleepdiaaBase
import Derived.Test.YtnhgojcleepdiaaPure
namespace Go.Proofs.Ytnhgojcleepdiaa
open Go.RowKit
def vB (x y : Int) : Bool := inB x (-10000) 10000 && inB y (-10000) 10000
def allB (ps : List Pt) : Bool := ps.all fun p => vB p.1 p.2
theorem allB_true {ps : List Pt} (h : ∀ q ∈ ps, vB q.1 q.2 = true) : allB ps = true := by simpa [allB] using h
theorem allB_false {ps : List Pt} {k : Nat} (hk : k < ps.length) (h : vB ps[k].1 ps[k].2 = false) : allB ps = false := by
  simp only [allB, List.all_eq_false]; exact ⟨ps[k], List.getElem_mem hk, by simp [h]⟩
theorem take_all {ps : List Pt} {k : Nat} (hk : k < ps.length) {P : Pt → Prop} (ha : ∀ q ∈ ps.take k, P q) (h : P ps[k]) : ∀ q ∈ ps.take (k + 1), P q := by
  intro q hq
  rw [List.take_succ_eq_append_getElem hk, List.mem_append, List.mem_singleton] at hq
  rcases hq with hq | rfl
  · exact ha q hq
  · exact h
def curveB (ps : List Pt) : Bool := inB ps.length 1 4 && allB ps
end Go.Proofs.Ytnhgojcleepdiaa
