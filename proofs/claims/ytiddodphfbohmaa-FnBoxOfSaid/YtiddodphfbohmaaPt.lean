/- A point as two numbers. -/
namespace Go.Proofs.Ytiddodphfbohmaa
abbrev Pt := Int × Int
end Go.Proofs.Ytiddodphfbohmaa
