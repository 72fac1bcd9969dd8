/- A point as two numbers. -/
namespace Go.Proofs.Ytfkkhgagajccfaa
abbrev Pt := Int × Int
end Go.Proofs.Ytfkkhgagajccfaa
