/- Merged: Frame, Turn, DiskWalk, DiskCheck, DiskWaits, DiskWrite, DiskArm, DiskDo, SetCells. -/
import Derived.Below
import Derived.Test.YtopacbmdoognjaaDoorPlain
import Derived.Test.YtopacbmdoognjaaDoorProg
import Derived.WalkKit
import Derived.WalkSpells
import Derived.WalkLawsBesides
import Derived.Outline
import Derived.Lib.Hide
import Derived.Deep.RegionHeld3
import Derived.Deep.AppendLies
import Derived.Laws.OwnMore
import Derived.Deep.OwnRows
import Derived.Deep.QuietTactic
import Derived.BigQuiet
import Derived.Laws.BytesArg
import Derived.OneCell
import Derived.Lib.LazyBuf
import Derived.Lib.BufferWrite
import Derived.Laws.IdiomCopy
/- Worlds: only one block of the old ones has turned; a struct in a block of its own. No program in sight. -/
namespace Go.Proofs.YtopacbmdoognjaaDoor.Frame
open Go Go.RowKit
/-- Of the old blocks only b may have turned. -/
structure Only (b : Nat) (w w' : World) : Prop where
  os : w'.os = w.os
  tape : w'.tape = w.tape
  output : w'.output = w.output
  size : w.heap.size ≤ w'.heap.size
  block : ∀ k, k < w.heap.size → k ≠ b → w'.heap[k]? = w.heap[k]?
theorem Only.refl (b : Nat) (w : World) : Only b w w := ⟨rfl, rfl, rfl, Nat.le_refl _, fun _ _ _ => rfl⟩
theorem Only.trans {b : Nat} {x y z : World} (h : Only b x y) (k : Only b y z) : Only b x z :=
  ⟨k.os.trans h.os, k.tape.trans h.tape, k.output.trans h.output, Nat.le_trans h.size k.size, fun i hi hne => (k.block i (Nat.lt_of_lt_of_le hi h.size) hne).trans (h.block i hi hne)⟩
theorem Only.below {b : Nat} {x y z : World} (h : Only b x y) (k : Below y.heap.size y z) : Only b x z :=
  ⟨k.os.trans h.os, k.tape.trans h.tape, k.output.trans h.output, Nat.le_trans h.size k.size, fun i hi hne => (k.block i (Nat.lt_of_lt_of_le hi h.size)).trans (h.block i hi hne)⟩
theorem Only.of_below {b : Nat} {x y : World} (k : Below x.heap.size x y) : Only b x y := (Only.refl b x).below k
theorem Only.drew {b : Nat} {x y : World} (h : Only b x y) : Only b x y.drew := ⟨h.os, h.tape, h.output, h.size, h.block⟩
theorem Only.setCell {b : Nat} {x y : World} (h : Only b x y) {p : Addr} (hp : p.block = b ∨ x.heap.size ≤ p.block) (v : Value) : Only b x (y.setCell p v) :=
  ⟨h.os, h.tape, h.output, by simpa [World.setCell] using h.size, fun i hi hne => (Below.heap_setCell y p v i (by
    rintro rfl
    rcases hp with e | e
    · exact hne e
    · omega)).trans (h.block i hi hne)⟩
theorem Only.set {b i : Nat} {x y : World} (h : Only b x y) (v : Value) : Only b x (y.setCell ⟨b, i, none⟩ v) := h.setCell (.inl rfl) v
theorem Only.alloc {b : Nat} {x y : World} (h : Only b x y) (o : Obj) : Only b x (y.alloc o) := h.below ((Below.refl _ _).alloc (Nat.le_refl _) _)
/-- Below a number that is at most b nothing has turned. -/
theorem Only.to_below {b B : Nat} {a x y : World} (h : Below B a x) (k : Only b x y) (hb : B ≤ b) (hB : B ≤ x.heap.size) : Below B a y :=
  ⟨k.os.trans h.os, k.tape.trans h.tape, k.output.trans h.output, Nat.le_trans h.size k.size, fun i hi => (k.block i (by omega) (by omega)).trans (h.block i hi)⟩
theorem Only.cell {b : Nat} {x y : World} (h : Only b x y) {p : Addr} (hp : p.block < x.heap.size) (hne : p.block ≠ b) : y.cell? p = x.cell? p := World.cell?_of_block (h.block _ hp hne)
theorem Only.frozen {b : Nat} {x y : World} (h : Only b x y) {p : Addr} (hp : p.block < x.heap.size) (hne : p.block ≠ b) : y.frozen? p = x.frozen? p := World.frozen?_of_block (h.block _ hp hne)
/-- A block holds just these cells, none frozen. -/
def Has (b : Nat) (cs : Array Value) (t : TypeId) (w : World) : Prop := w.heap[b]? = some (.cells cs t (0, 0))
theorem Has.lt {b : Nat} {cs : Array Value} {t : TypeId} {w : World} (h : Has b cs t w) : b < w.heap.size := by
  rcases Nat.lt_or_ge b w.heap.size with h1 | h1
  · exact h1
  · rw [Has, Array.getElem?_eq_none h1] at h; cases h
theorem Has.cell {b : Nat} {cs : Array Value} {t : TypeId} {w : World} (h : Has b cs t w) (i : Nat) : w.cell? ⟨b, i, none⟩ = cs[i]? := by
  rw [Has] at h; simp [World.cell?, h]
theorem Has.frozen {b : Nat} {cs : Array Value} {t : TypeId} {w : World} (h : Has b cs t w) (i : Nat) : w.frozen? ⟨b, i, none⟩ = false := by
  rw [Has] at h; simp [World.frozen?, h]
theorem Has.below {b : Nat} {cs : Array Value} {t : TypeId} {w w' : World} (h : Has b cs t w) (hb : Below w.heap.size w w') : Has b cs t w' := (hb.block b h.lt).trans h
theorem Has.only {b c : Nat} {cs : Array Value} {t : TypeId} {w w' : World} (h : Has b cs t w) (hb : Only c w w') (hne : b ≠ c) : Has b cs t w' := (hb.block b h.lt hne).trans h
theorem Has.drew {b : Nat} {cs : Array Value} {t : TypeId} {w : World} (h : Has b cs t w) : Has b cs t w.drew := h
theorem Has.alloc {b : Nat} {cs : Array Value} {t : TypeId} {w : World} (h : Has b cs t w) (o : Obj) : Has b cs t (w.alloc o) := h.below ((Below.refl _ _).alloc (Nat.le_refl _) _)
theorem Has.set {b i : Nat} {cs : Array Value} {t : TypeId} {w : World} (h : Has b cs t w) (v : Value) : Has b (cs.setIfInBounds i v) t (w.setCell ⟨b, i, none⟩ v) := by
  rw [Has] at h ⊢
  simp [World.setCell, Array.getElem?_modify, h]
theorem Has.set_other {b : Nat} {cs : Array Value} {t : TypeId} {w : World} (h : Has b cs t w) {p : Addr} (hp : p.block ≠ b) (v : Value) : Has b cs t (w.setCell p v) :=
  (Below.heap_setCell w p v b (fun e => hp e.symm)).trans h
theorem Has.new (w : World) (cs : Array Value) (t : TypeId) : Has w.heap.size cs t (w.alloc (.cells cs t)) := by
  rw [Has]
  show (w.heap.push _)[w.heap.size]? = _
  simp
theorem after_alloc {w w1 : World} {o : Obj} (hb : Below (w.alloc o).heap.size (w.alloc o) w1) : Below w.heap.size w w1 :=
  ((Below.refl _ _).alloc (Nat.le_refl _) o).trans (hb.mono (by simp))
/-- One call behind another: of the old blocks nothing has turned. -/
theorem bthen {W x y : World} (h : Below W.heap.size W x) (k : Below x.heap.size x y) : Below W.heap.size W y := h.trans (k.mono h.size)
theorem bcell {W w1 : World} (hb : Below W.heap.size W w1) : (∀ b o, b < W.heap.size → w1.cell? ⟨b, o, none⟩ = W.cell? ⟨b, o, none⟩) ∧ (∀ b o, b < W.heap.size → w1.frozen? ⟨b, o, none⟩ = W.frozen? ⟨b, o, none⟩) :=
  ⟨fun b o h => hb.cell (p := ⟨b, o, none⟩) h, fun b o h => hb.frozen (p := ⟨b, o, none⟩) h⟩
end Go.Proofs.YtopacbmdoognjaaDoor.Frame
/- Worlds: of the old blocks only those of a set have turned. No program in sight. -/
namespace Go.Proofs.YtopacbmdoognjaaDoor.Frame
open Go Go.RowKit
/-- Of the old blocks only those of F may have turned. -/
structure Turn (F : Nat → Prop) (w w' : World) : Prop where
  os : w'.os = w.os
  tape : w'.tape = w.tape
  output : w'.output = w.output
  size : w.heap.size ≤ w'.heap.size
  block : ∀ k, k < w.heap.size → ¬ F k → w'.heap[k]? = w.heap[k]?
theorem Turn.refl (F : Nat → Prop) (w : World) : Turn F w w := ⟨rfl, rfl, rfl, Nat.le_refl _, fun _ _ _ => rfl⟩
/-- What the second may turn besides is new. -/
theorem Turn.trans {F G : Nat → Prop} {x y z : World} (h : Turn F x y) (k : Turn G y z) (hg : ∀ i, i < x.heap.size → G i → F i) : Turn F x z :=
  ⟨k.os.trans h.os, k.tape.trans h.tape, k.output.trans h.output, Nat.le_trans h.size k.size, fun i hi hne => (k.block i (Nat.lt_of_lt_of_le hi h.size) (fun e => hne (hg i hi e))).trans (h.block i hi hne)⟩
theorem Turn.below {F : Nat → Prop} {x y z : World} (h : Turn F x y) (k : Below y.heap.size y z) : Turn F x z :=
  ⟨k.os.trans h.os, k.tape.trans h.tape, k.output.trans h.output, Nat.le_trans h.size k.size, fun i hi hne => (k.block i (Nat.lt_of_lt_of_le hi h.size)).trans (h.block i hi hne)⟩
theorem Turn.of_below {F : Nat → Prop} {x y : World} (k : Below x.heap.size x y) : Turn F x y := (Turn.refl F x).below k
theorem Turn.drew {F : Nat → Prop} {x y : World} (h : Turn F x y) : Turn F x y.drew := ⟨h.os, h.tape, h.output, h.size, h.block⟩
theorem Turn.setCell {F : Nat → Prop} {x y : World} (h : Turn F x y) {p : Addr} (hp : F p.block ∨ x.heap.size ≤ p.block) (v : Value) : Turn F x (y.setCell p v) :=
  ⟨h.os, h.tape, h.output, by simpa [World.setCell] using h.size, fun i hi hne => (Below.heap_setCell y p v i (by
    rintro rfl
    rcases hp with e | e
    · exact hne e
    · omega)).trans (h.block i hi hne)⟩
theorem Turn.alloc {F : Nat → Prop} {x y : World} (h : Turn F x y) (o : Obj) : Turn F x (y.alloc o) := h.below ((Below.refl _ _).alloc (Nat.le_refl _) _)
theorem Turn.grown {F : Nat → Prop} {x y z : World} {row : Option Nat} (h : Turn F x y) (hg : y.grownBy z row) (hr : ∀ k, row = some k → F k ∨ x.heap.size ≤ k) : Turn F x z :=
  ⟨hg.os.trans h.os, hg.tape.trans h.tape, hg.output.trans h.output, Nat.le_trans h.size hg.size, fun i hi hne => (hg.block i (Nat.lt_of_lt_of_le hi h.size) (fun e => by
    rcases hr i e.symm with h1 | h1
    · exact hne h1
    · omega)).trans (h.block i hi hne)⟩
theorem Turn.to_below {F : Nat → Prop} {B : Nat} {a x y : World} (h : Below B a x) (k : Turn F x y) (hb : ∀ i, F i → B ≤ i) (hB : B ≤ x.heap.size) : Below B a y :=
  ⟨k.os.trans h.os, k.tape.trans h.tape, k.output.trans h.output, Nat.le_trans h.size k.size, fun i hi => (k.block i (by omega) (fun e => by have := hb i e; omega)).trans (h.block i hi)⟩
theorem Turn.cell {F : Nat → Prop} {x y : World} (h : Turn F x y) {p : Addr} (hp : p.block < x.heap.size) (hne : ¬ F p.block) : y.cell? p = x.cell? p := World.cell?_of_block (h.block _ hp hne)
theorem Turn.frozen {F : Nat → Prop} {x y : World} (h : Turn F x y) {p : Addr} (hp : p.block < x.heap.size) (hne : ¬ F p.block) : y.frozen? p = x.frozen? p := World.frozen?_of_block (h.block _ hp hne)
theorem Has.turn {F : Nat → Prop} {b : Nat} {cs : Array Value} {t : TypeId} {w w' : World} (h : Has b cs t w) (hb : Turn F w w') (hne : ¬ F b) : Has b cs t w' := (hb.block b h.lt hne).trans h
end Go.Proofs.YtopacbmdoognjaaDoor.Frame
/- The walks of disk.Disk. -/
namespace Go.Proofs.YtopacbmdoognjaaDoor.Disk
open Go Go.RowKit Frame
theorem infoU8 : (Tryd.prog.info? 5).map (fun i => (i.zero, i.size, i.bytes)) = some (some (.int .u8 0), 1, 1) := by kernel_rfl
structure DSt where
  last : List UInt8
  wait : List Wr
  on : Bool
  armed : Bool
  syncs : Int
  cut : Int
def rows (ws : List Wr) : List Value := ws.flatMap fun x => [.int .i64 (x.1 : Int), .string x.2]
def bcells (l : List UInt8) : Array Value := (l.map fun b : UInt8 => Value.int .u8 (b.toNat : Int)).toArray
/-- A disk: its own block, its bytes' block, what waits. -/
structure Dk (base d L : Nat) (wv : Value) (s : DSt) (w : World) : Prop where
  h : Has d #[.slice (some ⟨L, 0, none⟩) s.last.length s.last.length, wv, .bool s.on, .bool s.armed, .int .i64 s.syncs, .int .i64 s.cut] 134 w
  l : Has L (bcells s.last) 5 w
  v : w.ownsRow base 137 2 wv s.wait.length (rows s.wait)
  ne : d ≠ L ∧ wv.ownBlock ≠ some d ∧ wv.ownBlock ≠ some L
  hb : base ≤ d ∧ base ≤ L
/-- The blocks of a disk. -/
def Foot (d L : Nat) (wv : Value) (k : Nat) : Prop := k = d ∨ k = L ∨ wv.ownBlock = some k
theorem made_zero (n : Nat) : madeCells #[Value.int .u8 0] n = bcells (List.replicate n 0) := by
  apply Array.toList_inj.1
  rw [toList_madeCells_one]
  simp [bcells]
theorem Dk.start (n : Nat) (w : World) : Dk w.heap.size (w.heap.size + 1) w.heap.size (.slice none 0 0) ⟨List.replicate (64 * n) 0, [], true, false, 0, 0⟩
    ((w.alloc (.cells (madeCells #[.int .u8 0] (64 * n)) 5)).alloc (.cells #[.slice (some ⟨w.heap.size, 0, none⟩) (64 * n) (64 * n), .slice none 0 0, .bool true, .bool false, .int .i64 0, .int .i64 0] 134)) := by
  have h := Has.new (w.alloc (.cells (madeCells #[.int .u8 0] (64 * n)) 5)) #[.slice (some ⟨w.heap.size, 0, none⟩) (64 * n) (64 * n), .slice none 0 0, .bool true, .bool false, .int .i64 0, .int .i64 0] 134
  simp only [World.size_alloc] at h
  refine ⟨?_, ?_, ⟨rfl, .inl ⟨rfl, rfl⟩⟩, ⟨by omega, by simp [Value.ownBlock], by simp [Value.ownBlock]⟩, by omega, by omega⟩
  · simpa using h
  · have := (Has.new w (madeCells #[.int .u8 0] (64 * n)) 5).alloc (.cells #[.slice (some ⟨w.heap.size, 0, none⟩) (64 * n) (64 * n), .slice none 0 0, .bool true, .bool false, .int .i64 0, .int .i64 0] 134)
    rw [made_zero] at this ⊢
    exact this
set_option maxRecDepth 100000 in
set_option maxHeartbeats 1000000 in
theorem New_calls (n : Nat) (hn : n ≤ 4096) (w : World) :
    Calls Tryd.prog 56 #[.int .i64 n] w fun e w' => e = .returned (.pointer (some ⟨w.heap.size + 1, 0, none⟩)) ∧ Dk w.heap.size (w.heap.size + 1) w.heap.size (.slice none 0 0) ⟨List.replicate (64 * n) 0, [], true, false, 0, 0⟩ w' ∧ Below w.heap.size w w' := by
  have HD := Lib.hid (Dk.start n w)
  have HB := Lib.hid (show Below w.heap.size w _ from ((Below.refl _ w).alloc (Nat.le_refl _) (.cells (madeCells #[.int .u8 0] (64 * n)) 5)).alloc (by simp) (.cells #[.slice (some ⟨w.heap.size, 0, none⟩) (64 * n) (64 * n), .slice none 0 0, .bool true, .bool false, .int .i64 0, .int .i64 0] 134))
  have hmk := fun W => run_make_row' (P := Tryd.prog) 32 5 (.int .u8 0) 1 Tryd.underlying32 infoU8 rfl .i64 .i64 (64 * n) (by omega) (by omega) W
  have ec : ((64 * n : Nat) : Int) = 64 * (n : Int) := by omega
  rw [ec] at hmk
  clear ec
  by_cases h0 : n = 0
  · subst h0
    have em : max 0 (min ((0 : Nat) : Int) 4096) = 0 := by omega
    simp only [Nat.mul_zero, Int.natCast_zero, Int.mul_zero] at hmk em
    go_enter Tryd.func56, Tryd.ntmps56
    go_wp2_with fail
    go_ret
    exact ⟨rfl, HD.out, HB.out⟩
  · have em : max 0 (min (n : Int) 4096) = (n : Int) := by omega
    have hp : 0 < n := by omega
    go_enter Tryd.func56, Tryd.ntmps56
    go_wp2_with fail
    go_ret
    exact ⟨rfl, HD.out, HB.out⟩
end Go.Proofs.YtopacbmdoognjaaDoor.Disk
/- The walks of disk.Disk: Blocks, check, On, Waits, Lasts. -/
namespace Go.Proofs.YtopacbmdoognjaaDoor.Disk
open Go Go.RowKit Frame
def chk (s : DSt) (k : Int) : Int := if s.on = false then 16 else if k < 0 ∨ (s.last.length : Int) / 64 ≤ k then 7 else 0
section
variable {base d L : Nat} {wv : Value} {s : DSt} {w : World}
theorem Dk.c0 (h : Dk base d L wv s w) : w.cell? ⟨d, 0, none⟩ = some (.slice (some ⟨L, 0, none⟩) s.last.length s.last.length) := h.h.cell 0
theorem Dk.c1 (h : Dk base d L wv s w) : w.cell? ⟨d, 1, none⟩ = some wv := h.h.cell 1
theorem Dk.c2 (h : Dk base d L wv s w) : w.cell? ⟨d, 2, none⟩ = some (.bool s.on) := h.h.cell 2
theorem Dk.c3 (h : Dk base d L wv s w) : w.cell? ⟨d, 3, none⟩ = some (.bool s.armed) := h.h.cell 3
theorem Dk.c4 (h : Dk base d L wv s w) : w.cell? ⟨d, 4, none⟩ = some (.int .i64 s.syncs) := h.h.cell 4
theorem Dk.c5 (h : Dk base d L wv s w) : w.cell? ⟨d, 5, none⟩ = some (.int .i64 s.cut) := h.h.cell 5
end
set_option maxHeartbeats 1000000 in
theorem Blocks_calls (base d L : Nat) (wv : Value) (s : DSt) (hl : s.last.length ≤ 262144) (w : World) (h : Dk base d L wv s w) :
    Calls Tryd.prog 103 #[.pointer (some ⟨d, 0, none⟩)] w fun e w' => e = .returned (.int .i64 ((s.last.length : Int) / 64)) ∧ w = w' := by
  have c0 := h.c0
  clear h
  go_enter Tryd.func103, Tryd.ntmps103
  go_wp2
  go_ret
  exact ⟨rfl, rfl⟩
set_option maxHeartbeats 1000000 in
theorem On_calls (base d L : Nat) (wv : Value) (s : DSt) (w : World) (h : Dk base d L wv s w) :
    Calls Tryd.prog 102 #[.pointer (some ⟨d, 0, none⟩)] w fun e w' => e = .returned (.bool s.on) ∧ w = w' := by
  have c2 := h.c2
  clear h
  go_enter Tryd.func102, Tryd.ntmps102
  go_wp2
  go_ret
  exact ⟨rfl, rfl⟩
set_option maxHeartbeats 1000000 in
theorem check_calls (base d L : Nat) (wv : Value) (s : DSt) (k : Int) (hl : s.last.length ≤ 262144) (w : World) (h : Dk base d L wv s w) :
    Calls Tryd.prog 99 #[.pointer (some ⟨d, 0, none⟩), .int .i64 k] w fun e w' => e = .returned (.int .i64 (chk s k)) ∧ w = w' := by
  have c2 := h.c2
  cases ho : s.on with
  | false =>
    rw [ho] at c2
    have HE := Lib.hid (show chk s k = 16 by unfold chk; rw [if_pos ho])
    clear h ho
    go_enter Tryd.func99, Tryd.ntmps99
    go_wp2
    go_ret
    rw [HE.out]
    exact ⟨rfl, rfl⟩
  | true =>
    rw [ho] at c2
    by_cases h1 : k < 0
    · have HE := Lib.hid (show chk s k = 7 by unfold chk; rw [if_neg (by simp [ho]), if_pos (Or.inl h1)])
      clear h ho
      go_enter Tryd.func99, Tryd.ntmps99
      go_wp2_with fail
      go_ret
      rw [HE.out]
      exact ⟨rfl, rfl⟩
    · by_cases h2 : (s.last.length : Int) / 64 ≤ k
      · have HE := Lib.hid (show chk s k = 7 by unfold chk; rw [if_neg (by simp [ho]), if_pos (Or.inr h2)])
        clear ho
        go_enter Tryd.func99, Tryd.ntmps99
        go_wp2_with fail
        refine (Blocks_calls base d L wv s hl _ h).mono ?_
        rintro e w1 ⟨rfl, rfl⟩
        go_wp2_with fail
        go_ret
        rw [HE.out]
        exact ⟨rfl, rfl⟩
      · have HE := Lib.hid (show chk s k = 0 by unfold chk; rw [if_neg (by simp [ho]), if_neg (by omega)])
        clear ho
        go_enter Tryd.func99, Tryd.ntmps99
        go_wp2_with fail
        refine (Blocks_calls base d L wv s hl _ h).mono ?_
        rintro e w1 ⟨rfl, rfl⟩
        go_wp2_with fail
        go_ret
        rw [HE.out]
        exact ⟨rfl, rfl⟩
end Go.Proofs.YtopacbmdoognjaaDoor.Disk
/- The walk of disk.Disk.Waits. -/
namespace Go.Proofs.YtopacbmdoognjaaDoor.Disk
open Go Go.RowKit Frame
theorem rows_at (ws : List Wr) : ∀ i, i < ws.length → (rows ws)[i * 2]? = some (.int .i64 ((ws.getD i (0, ByteArray.empty)).1 : Int)) ∧ (rows ws)[i * 2 + 1]? = some (.string (ws.getD i (0, ByteArray.empty)).2) := by
  induction ws with
  | nil => intro i h; cases h
  | cons x ws ih =>
    intro i h
    have e : rows (x :: ws) = .int .i64 (x.1 : Int) :: .string x.2 :: rows ws := by simp [rows]
    rw [e]
    cases i with
    | zero => exact ⟨rfl, rfl⟩
    | succ i =>
      have := ih i (by simpa using h)
      rw [show (i + 1) * 2 = i * 2 + 1 + 1 by omega, show i * 2 + 1 + 1 + 1 = (i * 2 + 1) + 1 + 1 by omega]
      simpa using this
theorem Dk.row {base d L : Nat} {wv : Value} {s : DSt} {w : World} (h : Dk base d L wv s w) :
    ∃ A cap, wv = .slice A s.wait.length cap ∧ (0 < s.wait.length → ∃ g, A = some ⟨g, 0, none⟩ ∧ g < w.heap.size ∧ ∀ i, i < s.wait.length → w.cell? ⟨g, i * 2, none⟩ = some (.int .i64 ((s.wait.getD i (0, ByteArray.empty)).1 : Int)) ∧ w.cell? ⟨g, i * 2 + 1, none⟩ = some (.string (s.wait.getD i (0, ByteArray.empty)).2)) := by
  obtain ⟨hlen, hv⟩ := h.v
  rcases hv with ⟨rfl, hz⟩ | ⟨g, cap, cur, rfl, hb, hg, hc, hm, hs, ht⟩
  · exact ⟨none, 0, by rw [hz], fun h => by omega⟩
  · refine ⟨some ⟨g, 0, none⟩, cap, rfl, fun _ => ⟨g, rfl, Has.lt (cs := cur) hg, fun i hi => ?_⟩⟩
    have hr := rows_at s.wait i hi
    rw [← ht] at hr
    have hc := fun j => (show w.cell? ⟨g, j, none⟩ = cur[j]? from Has.cell (cs := cur) hg j)
    rw [hc, hc]
    rw [List.getElem?_take_of_lt (by omega), List.getElem?_take_of_lt (by omega)] at hr
    simpa using hr
theorem total_take (ws : List Wr) : ∀ k, k < ws.length → total (ws.take (k + 1)) = total (ws.take k) + (ws.getD k (0, ByteArray.empty)).2.size := by
  intro k hk
  rw [List.take_succ_eq_append_getElem hk, total_append]
  simp [total, List.getD_eq_getElem?_getD, hk]
theorem total_le (n : Nat) (ws : List Wr) (h : Fits n ws) : total ws ≤ 64 * ws.length := by
  induction ws with
  | nil => simp [total]
  | cons x ws ih =>
    have h1 := h x (by simp)
    have h2 := ih fun y hy => h y (by simp [hy])
    simp only [total, List.length_cons]
    omega
set_option maxRecDepth 100000 in
set_option maxHeartbeats 1000000 in
theorem Waits_calls (base d L n : Nat) (wv : Value) (s : DSt) (hf : Fits n s.wait) (hn : s.wait.length ≤ 100000) (w : World) (h : Dk base d L wv s w) :
    Calls Tryd.prog 101 #[.pointer (some ⟨d, 0, none⟩)] w fun e w' => e = .returned (.int .i64 (total s.wait)) ∧ Below w.heap.size w w' := by
  have c1 := h.c1
  have H := Lib.hid h
  have HF := Lib.hid hf
  clear h hf
  obtain ⟨A, cap, rfl, hrow⟩ := H.out.row
  have HR := Lib.hid hrow
  clear hrow H
  have hT : total s.wait ≤ 6400000 := by have := total_le n s.wait HF.out; omega
  generalize s.wait = ws at *
  go_enter Tryd.func101, Tryd.ntmps101
  go_wp2_with fail
  go_loopw [3, 13] (fun t i wr => ∃ k : Nat, k ≤ ws.length ∧ i = .int .i64 k ∧ t = .int .i64 ((total (ws.take k) : Nat) : Int) ∧ Hid (Below w.heap.size w wr)) (fun _ i _ => ws.length - (intOf i).toNat)
  case atStart => exact ⟨0, by omega, rfl, rfl, Lib.hid (Below.refl _ _)⟩
  case round =>
    obtain ⟨k, hk, rfl, rfl, hB⟩ := hrel
    by_cases hlt : k < ws.length
    · obtain ⟨g, rfl, hg, hi⟩ := HR.out (by omega)
      obtain ⟨c0, c1'⟩ := hi k hlt
      have hc := fun o => hB.out.cell (p := ⟨g, o, none⟩) hg
      rw [← hc] at c0 c1'
      clear hi hc
      have hkT : total (ws.take (k + 1)) ≤ 6400000 := by
        have h1 := total_append (ws.take (k + 1)) (ws.drop (k + 1))
        rw [List.take_append_drop] at h1
        omega
      have hT2 := total_take ws k hlt
      rw [hT2] at hkT
      have HT := Lib.hid hT2
      clear hT2
      generalize ws.getD k (0, ByteArray.empty) = x at *
      generalize total (ws.take k) = T at *
      go_wp2_with fail
      exact ⟨⟨k + 1, by omega, by go_num, by rw [HT.out]; go_num, Lib.hid (hB.out.alloc hB.out.size _)⟩, by simp [intOf]; omega⟩
    · obtain rfl : k = ws.length := by omega
      rw [List.take_length]
      go_wp2_with fail
      go_ret
      exact ⟨rfl, hB.out⟩
end Go.Proofs.YtopacbmdoognjaaDoor.Disk
/- The walk of disk.Disk.Write. -/
namespace Go.Proofs.YtopacbmdoognjaaDoor.Disk
open Go Go.RowKit Frame
/-- Refused: nothing turns. -/
theorem Write_no (base d L : Nat) (wv : Value) (s : DSt) (k : Int) (t : ByteArray) (hk : chk s k ≠ 0) (hl : s.last.length ≤ 262144) (w : World) (h : Dk base d L wv s w) :
    Calls Tryd.prog 57 #[.pointer (some ⟨d, 0, none⟩), .int .i64 k, .string t] w fun e w' => e = .returned (.int .i64 (chk s k)) ∧ w = w' := by
  go_enter Tryd.func57, Tryd.ntmps57
  go_wp2_with fail
  refine (check_calls base d L wv s k hl _ h).mono ?_
  rintro e w1 ⟨rfl, rfl⟩
  clear h
  generalize hc : chk s k = c at *
  have HC := Lib.hid hc
  clear hc
  have h' : (c != 0) = true := by simpa using hk
  go_wp2_with fail
  go_ret
  rw [HC.out]
  exact ⟨rfl, rfl⟩
theorem Write_long (base d L : Nat) (wv : Value) (s : DSt) (k : Int) (t : ByteArray) (hk : chk s k = 0) (ht : 64 < t.size) (hl : s.last.length ≤ 262144) (w : World) (h : Dk base d L wv s w) :
    Calls Tryd.prog 57 #[.pointer (some ⟨d, 0, none⟩), .int .i64 k, .string t] w fun e w' => e = .returned (.int .i64 5) ∧ w = w' := by
  go_enter Tryd.func57, Tryd.ntmps57
  go_wp2_with fail
  refine (check_calls base d L wv s k hl _ h).mono ?_
  rintro e w1 ⟨rfl, rfl⟩
  clear h
  rw [hk]
  go_wp2_with fail
  go_ret
  exact ⟨rfl, rfl⟩
theorem infoW : (Tryd.prog.info? 137).map (fun i => (i.zero, i.size, i.bytes)) = some (some (.agg #[.int .i64 0, .string ⟨#[]⟩]), 2, 24) := by kernel_rfl
/-- What is left of a disk's blocks behind a call: old ones of its own, or new ones. -/
def Held (wv wv' : Value) (w : World) : Prop := wv'.ownBlock = wv.ownBlock ∨ wv'.ownBlock = none ∨ ∃ g, wv'.ownBlock = some g ∧ w.heap.size ≤ g
def WPost (base d L : Nat) (wv : Value) (s' : DSt) (r : Int) (w : World) (e : Ending) (w' : World) : Prop :=
  ∃ wv', e = .returned (.int .i64 r) ∧ Dk base d L wv' s' w' ∧ Turn (Foot d L wv) w w' ∧ Held wv wv' w
theorem grown_old {w w2 : World} {o : Obj} {row : Option Nat} {d i : Nat} (hg : (w.alloc o).grownBy w2 row) (hd : d < w.heap.size) (hne : row ≠ some d) : w2.cell? ⟨d, i, none⟩ = w.cell? ⟨d, i, none⟩ ∧ w2.frozen? ⟨d, i, none⟩ = w.frozen? ⟨d, i, none⟩ := by
  have h : w2.heap[d]? = w.heap[d]? := (hg.block d (by simp; omega) hne.symm).trans (Below.heap_alloc w o d hd)
  exact ⟨World.cell?_of_block (a := ⟨d, i, none⟩) h, World.frozen?_of_block (a := ⟨d, i, none⟩) h⟩
theorem rows_snoc (ws : List Wr) (k : Nat) (t : ByteArray) : rows (ws ++ [(k, t)]) = rows ws ++ [.int .i64 (k : Int), .string t] := by simp [rows]
set_option maxRecDepth 100000 in
set_option maxHeartbeats 1000000 in
theorem Write_calls (base d L : Nat) (wv : Value) (s : DSt) (k : Nat) (t : ByteArray) (hk : chk s k = 0) (ht : t.size ≤ 64) (hl : s.last.length ≤ 262144) (hn : s.wait.length ≤ 100000) (w : World) (h : Dk base d L wv s w) :
    Calls Tryd.prog 57 #[.pointer (some ⟨d, 0, none⟩), .int .i64 (k : Int), .string t] w (WPost base d L wv { s with wait := s.wait ++ [(k, t)] } 0 w) := by
  have c1 := h.c1
  have f1 := h.h.frozen 1
  have hdl := h.h.lt
  have hLl := h.l.lt
  have hb := h.hb
  have H := Lib.hid h
  obtain ⟨hdL, hne1, hne2⟩ := h.ne
  obtain ⟨i0, hi0, hz0, hz1, hz2⟩ := info_parts infoW
  have hown : (w.alloc (.cells #[.int .i64 (k : Int), .string t] 137)).ownsRow base 137 2 wv s.wait.length (rows s.wait) := h.v.alloc _
  go_enter Tryd.func57, Tryd.ntmps57
  go_wp2_with fail
  refine (check_calls base d L wv s k hl _ h).mono ?_
  rintro e w1 ⟨rfl, rfl⟩
  rw [hk]
  clear h
  go_wp2_with (at_builtin; refine wpList_append_lies _ rfl _ _ _ rfl base 137 i0 _ 2 24 Tryd.underlying132 hi0 hz0 hz1 hz2 rfl (by omega) wv s.wait.length (rows s.wait) rfl hown ⟨w.heap.size, 0, none⟩ 1 1 [.int .i64 (k : Int), .string t] rfl rfl (World.news_of_block (cs := #[.int .i64 (k : Int), .string t]) (t := 137) (fr := (0, 0)) (heap_alloc_new w _)) (by simp [Value.oneCell']) (by omega) (by unfold maxLen; omega) (by omega) (by simp; omega) (w.heap.size + 1) (by simp) ?_; intro g cap w2 hown2 hgrow hat hlt; have kf : w2.frozen? ⟨d, 1, none⟩ = false := (grown_old hgrow hdl hne1).2.trans f1; have kc : w2.cell? ⟨d, 1, none⟩ = some wv := (grown_old hgrow hdl hne1).1.trans c1)
  go_ret
  refine ⟨.slice (some ⟨g, 0, none⟩) (s.wait.length + 1) cap, rfl, ?_, ?_, ?_⟩
  · have hd2 : Has d _ _ w2 := (hgrow.block d (by simp; omega) hne1.symm).trans (H.out.h.alloc _)
    have hl2 : Has L _ _ w2 := (hgrow.block L (by simp; omega) hne2.symm).trans (H.out.l.alloc _)
    have hg1 : g ≠ d := by
      rintro rfl
      rcases hat with h1 | h1
      · exact hne1 h1
      · omega
    have hg2 : g ≠ L := by
      rintro rfl
      rcases hat with h1 | h1
      · exact hne2 h1
      · omega
    refine ⟨?_, hl2.set_other hdL _, ?_, ⟨hdL, by simpa [Value.ownBlock] using hg1, by simpa [Value.ownBlock] using hg2⟩, hb⟩
    · have := hd2.set (i := 1) (.slice (some ⟨g, 0, none⟩) (s.wait.length + 1) cap)
      simpa using this
    · have := ownsRow_setCell_other hown2 (a := ⟨d, 1, none⟩) (by simpa [Value.ownBlock] using hg1) (.slice (some ⟨g, 0, none⟩) (s.wait.length + 1) cap)
      rw [rows_snoc]
      simpa using this
  · have hT : Turn (Foot d L wv) w (w.alloc (.cells #[.int .i64 (k : Int), .string t] 137)) := (Turn.refl _ _).alloc _
    exact (hT.grown hgrow fun i hi => .inl (.inr (.inr hi))).setCell (.inl (.inl rfl)) _
  · rcases hat with h1 | h1
    · exact .inl (by rw [h1]; rfl)
    · exact .inr (.inr ⟨g, rfl, by omega⟩)
end Go.Proofs.YtopacbmdoognjaaDoor.Disk
/- The walks of disk.Disk.Arm and Up, and Lasts. -/
namespace Go.Proofs.YtopacbmdoognjaaDoor.Disk
open Go Go.RowKit Frame
def armed (s : DSt) (n c : Int) : DSt := if s.on then { s with armed := true, syncs := max 0 n, cut := max 0 c } else s
def upped (s : DSt) : DSt := if s.on then s else { s with on := true, armed := false, syncs := 0, cut := 0 }
section
variable {base d L : Nat} {wv : Value} {s : DSt} {w : World}
/-- Cells of the disk's own block are stored into, none of the first two. -/
theorem Dk.stored (h : Dk base d L wv s w) {s' : DSt} {w' : World} (hl : s'.last = s.last) (hw : s'.wait = s.wait)
    (hh : Has d #[.slice (some ⟨L, 0, none⟩) s.last.length s.last.length, wv, .bool s'.on, .bool s'.armed, .int .i64 s'.syncs, .int .i64 s'.cut] 134 w') (ho : Only d w w') : Dk base d L wv s' w' := by
  obtain ⟨hdL, hne1, hne2⟩ := h.ne
  refine ⟨by rw [hl]; exact hh, by rw [hl]; exact h.l.only ho hdL.symm, ?_, h.ne, h.hb⟩
  rw [hw]
  obtain ⟨hlen, hv⟩ := h.v
  refine ⟨hlen, ?_⟩
  rcases hv with hv | ⟨g, cap, cur, rfl, hb, hg, hr⟩
  · exact .inl hv
  · refine .inr ⟨g, cap, cur, rfl, hb, (ho.block g (Has.lt (cs := cur) hg) ?_).trans hg, hr⟩
    rintro rfl
    exact hne1 rfl
end
set_option maxHeartbeats 1000000 in
theorem Arm_calls (base d L : Nat) (wv : Value) (s : DSt) (n c : Int) (w : World) (h : Dk base d L wv s w) :
    Calls Tryd.prog 71 #[.pointer (some ⟨d, 0, none⟩), .int .i64 n, .int .i64 c] w fun e w' => e = .returned (.tuple #[]) ∧ Dk base d L wv (armed s n c) w' ∧ Only d w w' := by
  have c2 := h.c2
  have f3 := h.h.frozen 3
  have f4 := h.h.frozen 4
  have f5 := h.h.frozen 5
  have c3 := h.c3
  have c4 := h.c4
  have c5 := h.c5
  have H := Lib.hid h
  clear h
  cases ho : s.on with
  | false =>
    have HE := Lib.hid (show armed s n c = s by simp [armed, ho])
    rw [ho] at c2
    clear ho
    go_enter Tryd.func71, Tryd.ntmps71
    go_wp2_with fail
    go_end0
    exact ⟨rfl, by rw [HE.out]; exact H.out, Only.refl _ _⟩
  | true =>
    have HF := Lib.hid (show ∀ N C : Int, N = max 0 n → C = max 0 c → Dk base d L wv (armed s n c) (((w.setCell ⟨d, 3, none⟩ (.bool true)).setCell ⟨d, 4, none⟩ (.int .i64 N)).setCell ⟨d, 5, none⟩ (.int .i64 C)) from fun N C hN hC => by
      rw [show armed s n c = { s with armed := true, syncs := N, cut := C } by simp [armed, ho, hN, hC]]
      refine H.out.stored rfl rfl ?_ ((((Only.refl _ _).set _).set _).set _)
      have := ((H.out.h.set (i := 3) (.bool true)).set (i := 4) (.int .i64 N)).set (i := 5) (.int .i64 C)
      simpa using this)
    rw [ho] at c2
    clear ho
    go_enter Tryd.func71, Tryd.ntmps71
    go_wp2_with fail
    all_goals
      go_end0
      first
        | exact ⟨rfl, HF.out n c (by omega) (by omega), (((Only.refl _ _).set _).set _).set _⟩
        | exact ⟨rfl, HF.out n 0 (by omega) (by omega), (((Only.refl _ _).set _).set _).set _⟩
        | exact ⟨rfl, HF.out 0 c (by omega) (by omega), (((Only.refl _ _).set _).set _).set _⟩
        | exact ⟨rfl, HF.out 0 0 (by omega) (by omega), (((Only.refl _ _).set _).set _).set _⟩
end Go.Proofs.YtopacbmdoognjaaDoor.Disk
/- The walk of disk.Disk.do. -/
namespace Go.Proofs.YtopacbmdoognjaaDoor.Disk
open Go Go.RowKit Frame
structure DoI (s : DSt) (L k : Nat) (cut : Int) (w wr : World) : Prop where
  l : Has L (bcells (done s.last (s.wait.take k) cut)) 5 wr
  o : Only L w wr
theorem left_le (ws : List Wr) : ∀ cut : Int, left ws cut ≤ cut ∧ (cut ≤ 0 → left ws cut = cut) ∧ (0 ≤ cut → 0 ≤ left ws cut) := by
  induction ws with
  | nil => intro cut; exact ⟨Int.le_refl _, fun _ => rfl, fun h => h⟩
  | cons x ws ih =>
    intro cut
    obtain ⟨k, d⟩ := x
    have h := ih (cut - (upto cut d.size : Int))
    have hu : (upto cut d.size : Int) = max 0 (min cut d.size) := by unfold upto; omega
    simp only [left]
    refine ⟨by omega, fun hc => ?_, fun hc => h.2.2 (by omega)⟩
    rw [h.2.1 (by omega)]
    omega
theorem take_snoc (ws : List Wr) (k : Nat) (h : k < ws.length) : ws.take (k + 1) = ws.take k ++ [ws.getD k (0, ByteArray.empty)] := by
  rw [List.take_succ_eq_append_getElem h]; simp [List.getD_eq_getElem?_getD, h]
theorem done_step (s : List UInt8) (ws : List Wr) (k : Nat) (h : k < ws.length) (cut : Int) :
    done s (ws.take (k + 1)) cut = put (done s (ws.take k) cut) (ws.getD k (0, ByteArray.empty)).1 ((ws.getD k (0, ByteArray.empty)).2.data.toList.take (upto (left (ws.take k) cut) (ws.getD k (0, ByteArray.empty)).2.size)) ∧
    left (ws.take (k + 1)) cut = left (ws.take k) cut - (upto (left (ws.take k) cut) (ws.getD k (0, ByteArray.empty)).2.size : Int) := by
  rw [take_snoc ws k h, done_append, left_append]
  exact ⟨rfl, rfl⟩
end Go.Proofs.YtopacbmdoognjaaDoor.Disk
/- Cells in a row that are stored into a block known whole. No program in sight. -/
namespace Go.Proofs.YtopacbmdoognjaaDoor.Frame
open Go Go.RowKit
theorem Has.setCells {b : Nat} {t : TypeId} : ∀ (vs : List Value) (o : Nat) (l : List Value) (w : World), Has b l.toArray t w → o + vs.length ≤ l.length →
    Has b (l.take o ++ (vs ++ l.drop (o + vs.length))).toArray t (w.setCells b o vs)
  | [], o, l, w, h, _ => by simpa [World.setCells] using h
  | v :: vs, o, l, w, h, hl => by
    rw [List.length_cons] at hl
    have h1 := h.set (i := o) v
    rw [List.setIfInBounds_toArray] at h1
    have h2 := Has.setCells vs (o + 1) (l.set o v) _ h1 (by rw [List.length_set]; omega)
    rw [World.setCells]
    have e : (l.set o v).take (o + 1) ++ (vs ++ (l.set o v).drop (o + 1 + vs.length)) = l.take o ++ (v :: vs ++ l.drop (o + (v :: vs).length)) := by
      rw [List.take_succ_eq_append_getElem (by rw [List.length_set]; omega), List.take_set_of_le (Nat.le_refl _), List.getElem_set_self, List.drop_set_of_lt (by omega), List.length_cons]
      simp [Nat.add_assoc, Nat.add_comm 1]
    rw [← e]
    exact h2
theorem Only.setCells {b : Nat} {x : World} : ∀ (vs : List Value) (o : Nat) (y : World), Only b x y → Only b x (y.setCells b o vs)
  | [], _, _, h => h
  | v :: vs, o, _, h => Only.setCells vs (o + 1) _ (h.set v)
end Go.Proofs.YtopacbmdoognjaaDoor.Frame
