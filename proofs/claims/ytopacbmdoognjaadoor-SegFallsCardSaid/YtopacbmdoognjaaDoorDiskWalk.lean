/- The walks of disk.Disk. -/
import Derived.Test.YtopacbmdoognjaaDoorTurn
import Derived.Test.YtopacbmdoognjaaDoorDiskMath
import Derived.Test.YtopacbmdoognjaaDoorProg
import Derived.WalkKit
import Derived.WalkSpells
import Derived.WalkLawsBesides
import Derived.Outline
import Derived.Lib.Hide
import Derived.Deep.RegionHeld3
import Derived.Deep.AppendLies
import Derived.Laws.OwnMore
import Derived.Deep.OwnRows
namespace Go.Proofs.YtopacbmdoognjaaDoor.Disk
open Go Go.RowKit Frame
theorem infoU8 : (Tryd.prog.info? 5).map (fun i => (i.zero, i.size, i.bytes)) = some (some (.int .u8 0), 1, 1) := by kernel_rfl
structure DSt where
  last : List UInt8
  wait : List Wr
  on : Bool
  armed : Bool
  syncs : Int
  cut : Int
def rows (ws : List Wr) : List Value := ws.flatMap fun x => [.int .i64 (x.1 : Int), .string x.2]
def bcells (l : List UInt8) : Array Value := (l.map fun b : UInt8 => Value.int .u8 (b.toNat : Int)).toArray
/-- A disk: its own block, its bytes' block, what waits. -/
structure Dk (base d L : Nat) (wv : Value) (s : DSt) (w : World) : Prop where
  h : Has d #[.slice (some ⟨L, 0, none⟩) s.last.length s.last.length, wv, .bool s.on, .bool s.armed, .int .i64 s.syncs, .int .i64 s.cut] 134 w
  l : Has L (bcells s.last) 5 w
  v : w.ownsRow base 137 2 wv s.wait.length (rows s.wait)
  ne : d ≠ L ∧ wv.ownBlock ≠ some d ∧ wv.ownBlock ≠ some L
  hb : base ≤ d ∧ base ≤ L
/-- The blocks of a disk. -/
def Foot (d L : Nat) (wv : Value) (k : Nat) : Prop := k = d ∨ k = L ∨ wv.ownBlock = some k
theorem made_zero (n : Nat) : madeCells #[Value.int .u8 0] n = bcells (List.replicate n 0) := by
  apply Array.toList_inj.1
  rw [toList_madeCells_one]
  simp [bcells]
theorem Dk.start (n : Nat) (w : World) : Dk w.heap.size (w.heap.size + 1) w.heap.size (.slice none 0 0) ⟨List.replicate (64 * n) 0, [], true, false, 0, 0⟩
    ((w.alloc (.cells (madeCells #[.int .u8 0] (64 * n)) 5)).alloc (.cells #[.slice (some ⟨w.heap.size, 0, none⟩) (64 * n) (64 * n), .slice none 0 0, .bool true, .bool false, .int .i64 0, .int .i64 0] 134)) := by
  have h := Has.new (w.alloc (.cells (madeCells #[.int .u8 0] (64 * n)) 5)) #[.slice (some ⟨w.heap.size, 0, none⟩) (64 * n) (64 * n), .slice none 0 0, .bool true, .bool false, .int .i64 0, .int .i64 0] 134
  simp only [World.size_alloc] at h
  refine ⟨?_, ?_, ⟨rfl, .inl ⟨rfl, rfl⟩⟩, ⟨by omega, by simp [Value.ownBlock], by simp [Value.ownBlock]⟩, by omega, by omega⟩
  · simpa using h
  · have := (Has.new w (madeCells #[.int .u8 0] (64 * n)) 5).alloc (.cells #[.slice (some ⟨w.heap.size, 0, none⟩) (64 * n) (64 * n), .slice none 0 0, .bool true, .bool false, .int .i64 0, .int .i64 0] 134)
    rw [made_zero] at this ⊢
    exact this
set_option maxRecDepth 100000 in
set_option maxHeartbeats 1000000 in
theorem New_calls (n : Nat) (hn : n ≤ 4096) (w : World) :
    Calls Tryd.prog 56 #[.int .i64 n] w fun e w' => e = .returned (.pointer (some ⟨w.heap.size + 1, 0, none⟩)) ∧ Dk w.heap.size (w.heap.size + 1) w.heap.size (.slice none 0 0) ⟨List.replicate (64 * n) 0, [], true, false, 0, 0⟩ w' ∧ Below w.heap.size w w' := by
  have HD := Lib.hid (Dk.start n w)
  have HB := Lib.hid (show Below w.heap.size w _ from ((Below.refl _ w).alloc (Nat.le_refl _) (.cells (madeCells #[.int .u8 0] (64 * n)) 5)).alloc (by simp) (.cells #[.slice (some ⟨w.heap.size, 0, none⟩) (64 * n) (64 * n), .slice none 0 0, .bool true, .bool false, .int .i64 0, .int .i64 0] 134))
  have hmk := fun W => run_make_row' (P := Tryd.prog) 32 5 (.int .u8 0) 1 Tryd.underlying32 infoU8 rfl .i64 .i64 (64 * n) (by omega) (by omega) W
  have ec : ((64 * n : Nat) : Int) = 64 * (n : Int) := by omega
  rw [ec] at hmk
  clear ec
  by_cases h0 : n = 0
  · subst h0
    have em : max 0 (min ((0 : Nat) : Int) 4096) = 0 := by omega
    simp only [Nat.mul_zero, Int.natCast_zero, Int.mul_zero] at hmk em
    go_enter Tryd.func56, Tryd.ntmps56
    go_wp2_with fail
    go_ret
    exact ⟨rfl, HD.out, HB.out⟩
  · have em : max 0 (min (n : Int) 4096) = (n : Int) := by omega
    have hp : 0 < n := by omega
    go_enter Tryd.func56, Tryd.ntmps56
    go_wp2_with fail
    go_ret
    exact ⟨rfl, HD.out, HB.out⟩
end Go.Proofs.YtopacbmdoognjaaDoor.Disk
