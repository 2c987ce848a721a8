/- The walks of wal: headOf, blocks, row, Ready, Gen, Room, check, fail. -/
import Derived.Test.YtjnjcjildiadgaaDoorWalOps
import Derived.Test.YtjnjcjildiadgaaDoorDiskP
import Derived.Test.YtjnjcjildiadgaaDoorDiskKept
import Derived.Test.YtjnjcjildiadgaaDoorSegS
import Derived.Deep.QuietTactic
import Derived.BigQuiet
namespace Go.Proofs.YtjnjcjildiadgaaDoor.Wl
open Go Go.RowKit Frame Oct Disk
/-- A log's cells, in a block of its own. -/
def LCells (d : Nat) (l : LSt) : Array Value := #[.pointer (some ⟨d, 0, none⟩), .int .i64 l.area, .int .u64 (l.gen : Int), .bool l.ready, .bool l.broken, .string (bs l.done), .string (bs l.wait)]
def Lg (p d : Nat) (l : LSt) (w : World) : Prop := Has p (LCells d l) 60 w
section
variable {p d : Nat} {l : LSt} {w : World}
theorem Lg.c0 (h : Lg p d l w) : w.cell? ⟨p, 0, none⟩ = some (.pointer (some ⟨d, 0, none⟩)) := Has.cell h 0
theorem Lg.c1 (h : Lg p d l w) : w.cell? ⟨p, 1, none⟩ = some (.int .i64 l.area) := Has.cell h 1
theorem Lg.c2 (h : Lg p d l w) : w.cell? ⟨p, 2, none⟩ = some (.int .u64 (l.gen : Int)) := Has.cell h 2
theorem Lg.c3 (h : Lg p d l w) : w.cell? ⟨p, 3, none⟩ = some (.bool l.ready) := Has.cell h 3
theorem Lg.c4 (h : Lg p d l w) : w.cell? ⟨p, 4, none⟩ = some (.bool l.broken) := Has.cell h 4
theorem Lg.c5 (h : Lg p d l w) : w.cell? ⟨p, 5, none⟩ = some (.string (bs l.done)) := Has.cell h 5
theorem Lg.c6 (h : Lg p d l w) : w.cell? ⟨p, 6, none⟩ = some (.string (bs l.wait)) := Has.cell h 6
theorem Lg.below (h : Lg p d l w) {w' : World} (hb : Below w.heap.size w w') : Lg p d l w' := Has.below h hb
theorem Lg.kept (h : Lg p d l w) {w' : World} (hk : Kept w w') : Lg p d l w' := hk _ _ _ (by decide) (by decide) (by decide) h
end
set_option maxHeartbeats 1000000 in
theorem blocks_calls (B p d L n : Nat) (s : DSt) (l : LSt) (hg : Disk.Good n s) (w : World) (ho : One B d L s w) (h : Lg p d l w) :
    Calls Tryd.prog 39 #[.pointer (some ⟨p, 0, none⟩)] w fun e w' => e = .returned (.int .i64 ((n / 2 : Nat) : Int)) ∧ w = w' := by
  obtain ⟨wv, hd⟩ := ho
  have HC := Lib.hid (Blocks_calls B d L wv s (by have := hg.len; have := hg.hn; omega) w hd)
  rw [hg.len, show ((64 * n : Nat) : Int) / 64 = (n : Int) by omega] at HC
  have hn := hg.hn
  have c0 := h.c0
  clear h hd hg
  go_enter Tryd.func39, Tryd.ntmps39
  go_wp2_with fail
  refine HC.out.mono ?_
  rintro e w1 ⟨rfl, rfl⟩
  go_wp2_with fail
  go_ret
  exact ⟨rfl, rfl⟩
set_option maxHeartbeats 1000000 in
theorem row_calls (B p d L n : Nat) (s : DSt) (l : LSt) (hg : Disk.Good n s) (h4 : 4 ≤ n) (w : World) (ho : One B d L s w) (h : Lg p d l w) :
    Calls Tryd.prog 38 #[.pointer (some ⟨p, 0, none⟩)] w fun e w' => e = .returned (.int .i64 ((64 * (n / 2 - 1) : Nat) : Int)) ∧ w = w' := by
  have HC := Lib.hid (blocks_calls B p d L n s l hg w ho h)
  have hn := hg.hn
  have HE := Lib.hid (show 64 * (((n / 2 : Nat) : Int) - 1) = ((64 * (n / 2 - 1) : Nat) : Int) by omega)
  have b1 : 1 ≤ ((n / 2 : Nat) : Int) := by omega
  have b2 : ((n / 2 : Nat) : Int) ≤ 2048 := by omega
  clear h ho hg h4
  generalize ((n / 2 : Nat) : Int) = q at *
  go_enter Tryd.func38, Tryd.ntmps38
  go_wp2_with fail
  refine HC.out.mono ?_
  rintro e w1 ⟨rfl, rfl⟩
  go_wp2_with fail
  go_ret
  exact ⟨by rw [HE.out]; rfl, rfl⟩
set_option maxHeartbeats 1000000 in
theorem Ready_calls (p d : Nat) (l : LSt) (w : World) (h : Lg p d l w) :
    Calls Tryd.prog 15 #[.pointer (some ⟨p, 0, none⟩)] w fun e w' => e = .returned (.bool l.ready) ∧ w = w' := by
  have c3 := h.c3
  clear h
  go_enter Tryd.func15, Tryd.ntmps15
  go_wp2
  go_ret
  exact ⟨rfl, rfl⟩
set_option maxHeartbeats 1000000 in
theorem Gen_calls (p d : Nat) (l : LSt) (w : World) (h : Lg p d l w) :
    Calls Tryd.prog 14 #[.pointer (some ⟨p, 0, none⟩)] w fun e w' => e = .returned (.int .u64 (l.gen : Int)) ∧ w = w' := by
  have c2 := h.c2
  clear h
  go_enter Tryd.func14, Tryd.ntmps14
  go_wp2
  go_ret
  exact ⟨rfl, rfl⟩
set_option maxHeartbeats 1000000 in
theorem check_calls (p d : Nat) (l : LSt) (w : World) (h : Lg p d l w) :
    Calls Tryd.prog 35 #[.pointer (some ⟨p, 0, none⟩)] w fun e w' => e = .returned (.int .i64 (checkE l)) ∧ w = w' := by
  have c3 := h.c3
  have c4 := h.c4
  clear h
  unfold checkE
  rcases Bool.eq_false_or_eq_true l.broken with hb | hb
  · rw [hb] at c4 ⊢
    go_enter Tryd.func35, Tryd.ntmps35
    go_wp2
    go_ret
    exact ⟨rfl, rfl⟩
  · rcases Bool.eq_false_or_eq_true l.ready with hr | hr
    all_goals
      rw [hb] at c4 ⊢
      rw [hr] at c3 ⊢
      go_enter Tryd.func35, Tryd.ntmps35
      go_wp2
      go_ret
      exact ⟨rfl, rfl⟩
theorem bdn (w : World) (n : Nat) : Below w.heap.size w (w.drewN n) := ⟨rfl, rfl, rfl, Nat.le_refl _, fun _ _ => rfl⟩
theorem room_eq (n : Nat) (l : LSt) (h4 : 4 ≤ n) (hr : l.ready = true) : room l (n / 2) = ((64 * (n / 2 - 1) : Nat) : Int) - (l.done.length : Int) - (l.wait.length : Int) := by
  unfold room
  rw [if_pos hr]
  omega
set_option maxHeartbeats 2000000 in
theorem Room_calls (B p d L n : Nat) (s : DSt) (l : LSt) (hi : LInv n s l) (w : World) (ho : One B d L s w) (h : Lg p d l w) :
    Calls Tryd.prog 21 #[.pointer (some ⟨p, 0, none⟩)] w fun e w' => e = .returned (.int .i64 (room l (n / 2))) ∧ Below w.heap.size w w' := by
  have HR := Lib.hid (fun W k => Ready_calls p d l W k)
  have HW := Lib.hid (fun W k1 k2 => row_calls B p d L n s l hi.good hi.four W k1 k2)
  have hrm := hi.rm
  have hn := hi.good.hn
  have h4 := hi.four
  have HRE := Lib.hid (room_eq n l h4)
  have c5 := h.c5
  have c6 := h.c6
  have H := Lib.hid h
  have HO := Lib.hid ho
  have z5 : (bs l.done).size = l.done.length := bs_size _
  have z6 : (bs l.wait).size = l.wait.length := bs_size _
  rcases Bool.eq_false_or_eq_true l.ready with hr | hr
  · rw [HRE.out hr]
    rw [hr] at HR
    clear hr h ho hi HRE
    have hq : 64 * (n / 2 - 1) ≤ 200000 := by omega
    generalize 64 * (n / 2 - 1) = q at *
    go_enter Tryd.func21, Tryd.ntmps21
    go_wp2_with fail
    refine (HR.out _ H.out).mono ?_
    rintro e w1 ⟨rfl, rfl⟩
    go_wp2_with fail
    have t1 : IntKind.i64.wrap ((q : Int) - (l.done.length : Int)) = (q : Int) - (l.done.length : Int) := IntWalk.i64_in _ (by omega)
    have t2 : IntKind.i64.wrap ((q : Int) - (l.done.length : Int) - (l.wait.length : Int)) = (q : Int) - (l.done.length : Int) - (l.wait.length : Int) := IntWalk.i64_in _ (by omega)
    go_quiet ((go_at_call 38; exact Calls.quiet_of_same ((HW.out _ (HO.out.below (bdn _ _)) (H.out.below (bdn _ _))).mono fun _ _ ⟨a, b⟩ => ⟨a, b.symm⟩)))
    go_wp2_with fail
    go_ret
    exact ⟨rfl, bdn _ _⟩
  · have e : room l (n / 2) = 0 := by unfold room; rw [hr]; rfl
    rw [e]
    rw [hr] at HR
    clear hr h ho hi HRE
    go_enter Tryd.func21, Tryd.ntmps21
    go_wp2_with fail
    refine (HR.out _ H.out).mono ?_
    rintro e w1 ⟨rfl, rfl⟩
    go_wp2_with fail
    go_ret
    exact ⟨rfl, Below.refl _ _⟩
/-- What stays while a log turns: blocks of other types. -/
def Kept2 (w w' : World) : Prop := ∀ m cs t, t ≠ 55 → t ≠ 5 → t ≠ 58 → t ≠ 60 → Has m cs t w → Has m cs t w'
theorem Kept2.refl (w : World) : Kept2 w w := fun _ _ _ _ _ _ _ h => h
theorem Kept2.trans {x y z : World} (h : Kept2 x y) (k : Kept2 y z) : Kept2 x z := fun m cs t h1 h2 h3 h4 hm => k m cs t h1 h2 h3 h4 (h m cs t h1 h2 h3 h4 hm)
theorem Kept2.of_kept {x y : World} (h : Kept x y) : Kept2 x y := fun m cs t h1 h2 h3 _ hm => h m cs t h1 h2 h3 hm
theorem Kept2.of_below {x y : World} (h : Below x.heap.size x y) : Kept2 x y := fun _ _ _ _ _ _ _ hm => Has.below hm h
/-- A block of a log's on its disk, between two worlds. -/
structure WP (B p d L : Nat) (s : DSt) (cs : Array Value) (w0 w : World) : Prop where
  one : One B d L s w
  lg : Has p cs 60 w
  bel : Below B w0 w
  kept : Kept2 w0 w
  hp : B ≤ p
/-- A log on its disk. -/
def WD (B p d L : Nat) (s : DSt) (l : LSt) (w0 w : World) : Prop := WP B p d L s (LCells d l) w0 w
theorem One.base_le {B d L : Nat} {s : DSt} {w : World} (h : One B d L s w) : B ≤ w.heap.size := by
  obtain ⟨v, h⟩ := h
  exact Nat.le_trans h.hb.1 (Nat.le_of_lt h.h.lt)
section
variable {B p d L : Nat} {s s' : DSt} {l l' : LSt} {w0 w w' : World} {cs : Array Value}
theorem WD.one (h : WD B p d L s l w0 w) : One B d L s w := WP.one h
theorem WD.lg (h : WD B p d L s l w0 w) : Lg p d l w := WP.lg h
theorem WD.bel (h : WD B p d L s l w0 w) : Below B w0 w := WP.bel h
theorem WD.kept (h : WD B p d L s l w0 w) : Kept2 w0 w := WP.kept h
theorem WD.hp (h : WD B p d L s l w0 w) : B ≤ p := WP.hp h
theorem WD.le (h : WD B p d L s l w0 w) : B ≤ w.heap.size := One.base_le h.one
theorem WD.refl (hp : B ≤ p) (ho : One B d L s w) (hl : Lg p d l w) : WD B p d L s l w w := ⟨ho, hl, Below.refl _ _, Kept2.refl _, hp⟩
theorem WP.below (h : WP B p d L s cs w0 w) (hb : Below w.heap.size w w') : WP B p d L s cs w0 w' :=
  ⟨h.one.below hb, Has.below h.lg hb, h.bel.trans (hb.mono (One.base_le h.one)), h.kept.trans (Kept2.of_below hb), h.hp⟩
theorem WD.below (h : WD B p d L s l w0 w) (hb : Below w.heap.size w w') : WD B p d L s l w0 w' := WP.below h hb
theorem WD.drew (h : WD B p d L s l w0 w) : WD B p d L s l w0 w.drew := h.below ((Below.refl _ _).drew)
/-- A turn of the disk. -/
theorem WD.disk (h : WD B p d L s l w0 w) (ho : One B d L s' w') (hb : Below B w w') (hk : Kept w w') : WD B p d L s' l w0 w' :=
  ⟨ho, h.lg.kept hk, h.bel.trans hb, h.kept.trans (Kept2.of_kept hk), h.hp⟩
/-- A store into the log. -/
theorem WP.set (h : WP B p d L s cs w0 w) (i : Nat) (v : Value) : WP B p d L s (cs.setIfInBounds i v) w0 (w.setCell ⟨p, i, none⟩ v) :=
  ⟨h.one.set_other h.lg (by decide) (by decide) (by decide) v, h.lg.set v, h.bel.setCell (p := ⟨p, i, none⟩) h.hp v, fun m cs' t h1 h2 h3 h4 hm => by
    have hy := h.kept m cs' t h1 h2 h3 h4 hm
    exact hy.set_other (p := ⟨p, i, none⟩) (fun e => h4 (by have e' : p = m := e; subst e'; exact (has_type h.lg hy).symm)) v, h.hp⟩
end
end Go.Proofs.YtjnjcjildiadgaaDoor.Wl
