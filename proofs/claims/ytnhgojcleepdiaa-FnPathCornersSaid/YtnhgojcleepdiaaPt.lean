/- A point as two numbers. -/
namespace Go.Proofs.Ytnhgojcleepdiaa
abbrev Pt := Int × Int
end Go.Proofs.Ytnhgojcleepdiaa
