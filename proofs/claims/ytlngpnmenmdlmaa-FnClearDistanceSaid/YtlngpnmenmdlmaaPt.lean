/- A point as two numbers. -/
namespace Go.Proofs.Ytlngpnmenmdlmaa
abbrev Pt := Int × Int
end Go.Proofs.Ytlngpnmenmdlmaa
