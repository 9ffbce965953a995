/- Worlds that lay utf8's tables. No condition. -/
import Derived.Test.YtlpjclglhjcghaaDoorCmn
namespace Go.Proofs.YtlpjclglhjcghaaDoor
open Go Go.RowKit Go.ChangeShapes Go.WideShapes
noncomputable def layUtf (w : World) : World := layAt (layAt w 5 #[.int .u8 128, .int .u8 191, .int .u8 160, .int .u8 191, .int .u8 128, .int .u8 159, .int .u8 144, .int .u8 191, .int .u8 128, .int .u8 143, .int .u8 0, .int .u8 0, .int .u8 0, .int .u8 0, .int .u8 0, .int .u8 0, .int .u8 0, .int .u8 0, .int .u8 0, .int .u8 0, .int .u8 0, .int .u8 0, .int .u8 0, .int .u8 0, .int .u8 0, .int .u8 0, .int .u8 0, .int .u8 0, .int .u8 0, .int .u8 0, .int .u8 0, .int .u8 0]) 4 (Go.Pinned.utf8FirstZ.map fun n : Nat => Value.int .u8 (Int.ofNat n)).toArray
noncomputable def worldU (os : Os) : World := layUtf (World.holding Tryd.prog os ⟨#[], #[], []⟩)
end Go.Proofs.YtlpjclglhjcghaaDoor
