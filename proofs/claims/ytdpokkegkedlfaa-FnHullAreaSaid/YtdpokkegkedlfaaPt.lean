/- A point as two numbers. -/
namespace Go.Proofs.Ytdpokkegkedlfaa
abbrev Pt := Int × Int
end Go.Proofs.Ytdpokkegkedlfaa
