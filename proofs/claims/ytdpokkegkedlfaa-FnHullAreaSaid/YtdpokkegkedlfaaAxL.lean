/- From a law's arguments, as they are read, to the readings of the evaluation. -/
import Derived.Test.YtdpokkegkedlfaaAxT
import Derived.Test.YtdpokkegkedlfaaOpen
set_option maxRecDepth 100000
namespace Go.Proofs.Ytdpokkegkedlfaa
open Go.RowKit
def L00 : Nat → Prop := fun _ => False
theorem pts_reads {w : World} {v : Value} {ps : List Pt} (h : Pts w v ps) : Reads (EL L00).lv w v (.pts ps) := by
  obtain ⟨A, c, rfl, h1, h2, h3, h4⟩ := h
  refine ⟨ptCells ps, ⟨A, c, rfl, h1, h2, h3, fun hn => ?_⟩, rfl⟩
  obtain ⟨b, off, e1, e2, e3⟩ := h4 hn
  exact ⟨b, off, e1, e2, fun h => h, e3⟩
theorem ints_reads {w : World} {v : Value} {ps : List Int} (h : Ints w v ps) : Reads (EL L00).lv w v (.ints ps) := by
  obtain ⟨A, c, rfl, h1, h2, h3, h4⟩ := h
  refine ⟨ps.map (Value.int .i64), ⟨A, c, rfl, h1, h2, h3, fun hn => ?_⟩, rfl⟩
  obtain ⟨b, off, e1, e2, e3⟩ := h4 hn
  exact ⟨b, off, e1, e2, fun h => h, e3⟩
theorem bytes_reads {w : World} {v : Value} {n : Nat} (h : BytesArg w v n) : SV.has (EL L00) w v (.rdr n) := by
  obtain ⟨A, c, rfl, h1, h2, h3⟩ := h
  refine ⟨A, n, c, rfl, rfl, h1, h2, fun hn => ?_⟩
  obtain ⟨b, off, e1, e2, e3⟩ := h3 hn
  exact ⟨b, off, e1, e2, fun h => h, e3⟩
theorem walk_of {f : FuncId} {g : List AV → Option Sg} (h : FunOK f g) {avs : List AV} {need : Prop} (hg : g avs = some ⟨need, [.s (.bool true)]⟩) (hn : need) {w : World} {args : Array Value} (hA : hasA (EL L00) w args.toList avs) (hI : GInv w := by first | assumption | trivial) :
    Calls Try.prog f args w fun e w' => e = .returned (.bool true) ∧ Bel w w' := by
  refine (h avs _ hg hn L00 args w ⟨fun b hb => hb.elim, hI⟩ hA).2.mono ?_
  rintro e w' ⟨v, rfl, hv, hb⟩
  have : v = .bool true := hv
  exact ⟨by rw [this], hb⟩
end Go.Proofs.Ytdpokkegkedlfaa
