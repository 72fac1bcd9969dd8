/- A point as two numbers. -/
namespace Go.Proofs.YtejiomhoflnboaaDoor
abbrev Pt := Int × Int
end Go.Proofs.YtejiomhoflnboaaDoor
