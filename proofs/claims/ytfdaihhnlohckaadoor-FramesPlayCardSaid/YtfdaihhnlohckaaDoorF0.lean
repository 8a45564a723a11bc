import Derived.Test.YtfdaihhnlohckaaDoorClo
set_option maxRecDepth 100000
namespace Go.Proofs.YtfdaihhnlohckaaDoor
open Go.Ab
def w16 (l : List Nat) : List Nat := l ++ List.replicate (16 - l.length) 0
abbrev cN (n : Nat) : V := V.int .u64 (n : Int)
def frV (f l : Int) (wf wl : List Nat) : V := .agg 80 [.int .i64 f, .int .i64 l, .agg 78 (wf.map cN), .agg 78 (wl.map cN)]
theorem ev_New32 : ev D 3000 (.f f_frames_New [.int .i64 0, .int .i64 32]) ⟨[], G⟩ = some (.v (.tup [.ptr (.hp 1) [] 80, .int .i64 0]) ⟨[], G ++ [.rw (frV 0 32 (w16 [4294967295]) (w16 []))]⟩) := by kernel_rfl
theorem ev_New16 : ev D 3000 (.f f_frames_New [.int .i64 0, .int .i64 16]) ⟨[], G⟩ = some (.v (.tup [.ptr (.hp 1) [] 80, .int .i64 0]) ⟨[], G ++ [.rw (frV 0 16 (w16 [65535]) (w16 []))]⟩) := by kernel_rfl
theorem ev_New20 : ev D 3000 (.f f_frames_New [.int .i64 4, .int .i64 20]) ⟨[], G⟩ = some (.v (.tup [.ptr (.hp 1) [] 80, .int .i64 0]) ⟨[], G ++ [.rw (frV 4 20 (w16 [1048560]) (w16 []))]⟩) := by kernel_rfl
theorem ev_shown : ev D 3000 (.f f_steadfastlaw04_shown []) ⟨[], G⟩ = some (.v (.bool true) ⟨[], G ++ [.rw (frV 2 5 (w16 []) (w16 []))]⟩) := by kernel_rfl
end Go.Proofs.YtfdaihhnlohckaaDoor
