/-
  DERIVED. GIVEN WITH THE SEED: THE PROGRAM's TIES (one call each: nine closed facts by the kernel) AND EACH ROW's TIE, after the 31st guide's Derived/Test/Toyas{Tie, Card}.lean. No idea stands in it: it is a product of the set-up. Laid BY PROGRAM, IN A SANDBOX (cutbox-door.mjs). By AI agents, Wed Nov 11 2026. No macro, syntax, notation, axiom, sorry.
-/
import Derived.Test.YtheldkljmefbaaaDoorRows
import Derived.LaidByTextLater
import Derived.SevenTiedAt
import Derived.LaidSub
import Derived.LaidOnce
namespace Go.Proofs.YtheldkljmefbaaaDoor
open Go
set_option maxRecDepth 100000
theorem seatTie1 : Tryd.prog.laidByTextLater [("rolodex/hash.begin", Rows.laid_rolodex_hash_begin), ("rolodex/hash.rounds", Rows.laid_rolodex_hash_rounds), ("rolodex/lmots.forms", Rows.laid_rolodex_lmots_forms)] [.data, .data, .data] true :=
  Program.laidByTextLater_by_one 29 8 65 (by kernel_rfl) (by kernel_rfl) (by kernel_rfl) (by kernel_rfl) (by kernel_rfl) (by kernel_rfl) (fun _ _ => by kernel_rfl)
theorem noOwnUnsafe : Tryd.pinned.checked.prog.headLifts.contains "ownunsafe" = false := by kernel_rfl
theorem tie : Tryd.prog.laidByTextLater [("rolodex/hash.begin", Rows.laid_rolodex_hash_begin), ("rolodex/hash.rounds", Rows.laid_rolodex_hash_rounds)] [.data, .data] true :=
  Program.laidByTextLater.sub seatTie1 ["rolodex/hash.begin", "rolodex/hash.rounds"] (by kernel_rfl) (by kernel_rfl)
theorem headBytes_row_tie : Rows.headBytesRow.laidByTextAt .later Tryd.pinned [.data, .data] true :=
  OpenClaim.laidByTextAt_later rfl rfl tie noOwnUnsafe
theorem tie2 : Tryd.prog.laidByTextLater [("rolodex/hash.begin", Rows.laid_rolodex_hash_begin), ("rolodex/hash.rounds", Rows.laid_rolodex_hash_rounds), ("rolodex/lmots.forms", Rows.laid_rolodex_lmots_forms)] [.data, .data, .data] true :=
  Program.laidByTextLater.sub seatTie1 ["rolodex/hash.begin", "rolodex/hash.rounds", "rolodex/lmots.forms"] (by kernel_rfl) (by kernel_rfl)
theorem headRight_row_tie : Rows.headRightRow.laidByTextAt .later Tryd.pinned [.data, .data, .data] true :=
  OpenClaim.laidByTextAt_later rfl rfl tie2 noOwnUnsafe
theorem gossipForks_row_tie : Rows.gossipForksRow.laidByTextAt .later Tryd.pinned [.data, .data, .data] true :=
  OpenClaim.laidByTextAt_later rfl rfl tie2 noOwnUnsafe
theorem headBytesUpto_row_tie : Rows.headBytesUptoRow.laidByTextAt .later Tryd.pinned [.data, .data] true :=
  OpenClaim.laidByTextAt_later rfl rfl tie noOwnUnsafe
theorem headRightUpto_row_tie : Rows.headRightUptoRow.laidByTextAt .later Tryd.pinned [.data, .data, .data] true :=
  OpenClaim.laidByTextAt_later rfl rfl tie2 noOwnUnsafe
theorem gossipForksUpto_row_tie : Rows.gossipForksUptoRow.laidByTextAt .later Tryd.pinned [.data, .data, .data] true :=
  OpenClaim.laidByTextAt_later rfl rfl tie2 noOwnUnsafe
end Go.Proofs.YtheldkljmefbaaaDoor
