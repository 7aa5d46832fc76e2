/- The cover's contract, hidden. -/
import Derived.Test.YthbckkjihijekaaDoorCow
namespace Go.Proofs.YthbckkjihijekaaDoor
open Go.RowKit
theorem cover_said : Hid CoverSaid := fun A len cap zs w hS hm => cover_any A len cap zs w hS hm
end Go.Proofs.YthbckkjihijekaaDoor
