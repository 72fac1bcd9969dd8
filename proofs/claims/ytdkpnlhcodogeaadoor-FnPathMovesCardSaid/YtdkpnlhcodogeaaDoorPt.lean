/- A point as two numbers. -/
namespace Go.Proofs.YtdkpnlhcodogeaaDoor
abbrev Pt := Int × Int
end Go.Proofs.YtdkpnlhcodogeaaDoor
