/- A point as two numbers. -/
namespace Go.Proofs.Ytaidmimahakeeaa
abbrev Pt := Int × Int
end Go.Proofs.Ytaidmimahakeeaa
