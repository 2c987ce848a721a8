/- Merged: DiskActs, DiskFalls, DiskArms, DiskKeeps, DiskRef, DiskRefB, DiskRefC, DiskRefD, DiskRefE, DiskRead. -/
import Derived.Test.YtjnjcjildiadgaaDoorDiskAwake
import Derived.Deep.RegionHeld3
import Derived.Deep.QuietTactic
import Derived.BigQuiet
import Derived.Deep.RegionWith
import Derived.Laws.AppendOwnNone
import Derived.Shelf.Spec.SlicesInsert
/- Acts of stairwelllaw15: how they lie, opened; Light. -/
namespace Go.Proofs.YtjnjcjildiadgaaDoor.Disk
open Go Go.RowKit Go.ChangeShapes Go.WideShapes Frame
structure DAct where
  kind : UInt8
  at_ : Int
  cut : Int
  text : ByteArray
  deriving Inhabited
def DAct.Ok (x : DAct) : Prop := (-9223372036854775808 ≤ x.at_ ∧ x.at_ ≤ 9223372036854775807) ∧ (-9223372036854775808 ≤ x.cut ∧ x.cut ≤ 9223372036854775807) ∧ x.text.size ≤ maxLen
def ActAt (b o : Nat) (x : DAct) (w : World) : Prop :=
  w.cell? ⟨b, o, none⟩ = some (.int .u8 x.kind.toNat) ∧ w.cell? ⟨b, o + 1, none⟩ = some (.int .i64 x.at_) ∧ w.cell? ⟨b, o + 2, none⟩ = some (.int .i64 x.cut) ∧ w.cell? ⟨b, o + 3, none⟩ = some (.string x.text)
/-- A slice of acts, in a block below B. -/
def Acts (B : Nat) (A : Option Addr) (l : List DAct) (w : World) : Prop :=
  0 < l.length → ∃ b off, A = some ⟨b, off, none⟩ ∧ b < B ∧ ∀ i, i < l.length → ActAt b (off + i * 4) (l.getD i default) w
theorem Acts.below {B : Nat} {A : Option Addr} {l : List DAct} {w w' : World} (h : Acts B A l w) (hb : Below B w w') : Acts B A l w' := fun h0 => by
  obtain ⟨b, off, hA, hlt, hi⟩ := h h0
  refine ⟨b, off, hA, hlt, fun i hil => ?_⟩
  obtain ⟨c0, c1, c2, c3⟩ := hi i hil
  have hc := fun o => hb.cell (p := ⟨b, o, none⟩) hlt
  exact ⟨by rw [hc]; exact c0, by rw [hc]; exact c1, by rw [hc]; exact c2, by rw [hc]; exact c3⟩
theorem Acts.more {B B' : Nat} {A : Option Addr} {l : List DAct} {w : World} (h : Acts B A l w) (hB : B ≤ B') : Acts B' A l w := fun h0 => by
  obtain ⟨b, off, hA, hlt, hi⟩ := h h0
  exact ⟨b, off, hA, by omega, hi⟩
theorem take_succ_getD {α : Type} [Inhabited α] (l : List α) (k : Nat) (h : k < l.length) : l.take (k + 1) = l.take k ++ [l.getD k default] := by
  rw [List.take_succ_eq_append_getElem h]; simp [List.getD_eq_getElem?_getD, h]
theorem getD_mem {α : Type} [Inhabited α] (l : List α) (k : Nat) (h : k < l.length) : l.getD k default ∈ l := by
  simp [List.getD_eq_getElem?_getD, h]
theorem mem_getD {α : Type} [Inhabited α] {l : List α} {x : α} (h : x ∈ l) : ∃ i, i < l.length ∧ l.getD i default = x := by
  obtain ⟨i, hi, rfl⟩ := List.getElem_of_mem h
  exact ⟨i, hi, by simp [List.getD_eq_getElem?_getD, hi]⟩
theorem cell_lt {w : World} {a : Addr} {v : Value} (h : w.cell? a = some v) : a.block < w.heap.size := by
  rcases Nat.lt_or_ge a.block w.heap.size with h1 | h1
  · exact h1
  · simp [World.cell?, Array.getElem?_eq_none h1] at h
def lightB (l : List DAct) : Bool := (l.all fun x => decide (x.text.size ≤ 80)) && decide (l.length ≤ 60)
theorem light_iff {l : List DAct} (h : lightB l = true) : l.length ≤ 60 ∧ ∀ x ∈ l, x.text.size ≤ 80 := by
  unfold lightB at h
  simp at h
  exact ⟨h.2, h.1⟩
end Go.Proofs.YtjnjcjildiadgaaDoor.Disk
/- The walk of DiskFalls. -/
namespace Go.Proofs.YtjnjcjildiadgaaDoor.Disk
open Go Go.RowKit Frame
def wait (s : DSt) (ws : List Wr) : DSt := { s with wait := ws }
theorem wrote_wait (s : DSt) (ws : List Wr) (k : Int) (t : ByteArray) (h : ans (wait s ws) k t = 0) : wrote (wait s ws) k t = wait s (ws ++ [(k.toNat, t)]) := by
  unfold wrote
  rw [if_pos h]
  rfl
theorem wrote_no (s : DSt) (k : Int) (t : ByteArray) (h : ans s k t ≠ 0) : wrote s k t = s := by
  unfold wrote
  rw [if_neg h]
theorem wr_cut (s : DSt) (ws vs : List Wr) (k : Int) (t t' : ByteArray) (h : ans (wait s ws) k t = 0) (ht : t'.size ≤ t.size) : ans (wait s vs) k t' = 0 := by
  obtain ⟨h1, h2⟩ := ans_zero h
  have h3 : chk (wait s vs) k = 0 := h1
  unfold ans
  rw [if_neg (by simp [h3]), if_neg (by omega)]
/-- What the loop has done behind some acts. -/
structure FallsI (W : World) (d1 L1 d2 L2 : Nat) (c0 : Int) (k : Nat) (ws : List Wr) (w : World) : Prop where
  fits : Fits 6 ws
  len : ws.length ≤ k
  two : Two W.heap.size d1 L1 d2 L2 (wait (fresh 6) ws) (wait (fresh 6) (cutws ws c0)) w
  bel : Below W.heap.size W w
theorem good_wait {ws : List Wr} (hf : Fits 6 ws) (hl : ws.length ≤ 1000) : Good 6 (wait (fresh 6) ws) := by
  have h := Good.fresh 6 (by decide)
  exact ⟨hf, h.len, h.hn, by show ws.length ≤ 100000; omega, h.syncs, h.cut⟩
theorem FallsI.start {W : World} {d1 L1 d2 L2 : Nat} {c0 : Int} {w : World} (h : Two W.heap.size d1 L1 d2 L2 (fresh 6) (fresh 6) w) (hb : Below W.heap.size W w) : FallsI W d1 L1 d2 L2 c0 0 [] w :=
  ⟨(fun x hx => by cases hx), by simp, h, hb⟩
theorem upto_min (a : Int) (n m : Nat) (hm : min a (n : Int) = (m : Int)) : upto a n = m := by unfold upto; omega
/-- One more write, done to both. -/
theorem FallsI.next {W : World} {d1 L1 d2 L2 : Nat} {c0 : Int} {k : Nat} {ws : List Wr} {w w' : World} {a : Int} {t : ByteArray} {n : Nat} (h : FallsI W d1 L1 d2 L2 c0 k ws w) (hz : ans (wait (fresh 6) ws) a t = 0) (hn : upto (left ws c0) t.size = n)
    (ht : Two W.heap.size d1 L1 d2 L2 (wait (fresh 6) (ws ++ [(a.toNat, t)])) (wait (fresh 6) (cutws ws c0 ++ [(a.toNat, t.extract 0 n)])) w') (hb : Below W.heap.size W w') : FallsI W d1 L1 d2 L2 c0 (k + 1) (ws ++ [(a.toNat, t)]) w' := by
  obtain ⟨h1, h2⟩ := ans_zero hz
  obtain ⟨_, h3, h4⟩ := chk_zero h1
  have hl : (wait (fresh 6) ws).last.length = 64 * 6 := (Good.fresh 6 (by decide)).len
  refine ⟨h.fits.append (fun x hx => ?_), by have := h.len; simp; omega, ?_, hb⟩
  · simp only [List.mem_singleton] at hx
    subst hx
    exact ⟨by simp only; omega, h2⟩
  · rw [cutws_append]
    simp only [cutws, hn]
    exact ht
theorem left_snoc (ws : List Wr) (k : Nat) (t : ByteArray) (c : Int) (n : Nat) (hn : upto (left ws c) t.size = n) : left (ws ++ [(k, t)]) c = left ws c - (n : Int) := by
  rw [left_append]
  simp only [left, hn]
theorem Good.down {n : Nat} {s : DSt} (h : Good n s) (c : Int) : Good n (down s c) := by
  unfold Disk.down
  split
  · exact ⟨(fun x hx => by cases hx), done_length n _ _ _ h.len h.fits, h.hn, Nat.zero_le _, h.syncs, h.cut⟩
  · exact h
theorem Two.drew {base d1 L1 d2 L2 : Nat} {s1 s2 : DSt} {w : World} (h : Two base d1 L1 d2 L2 s1 s2 w) : Two base d1 L1 d2 L2 s1 s2 w.drew := h.below ⟨rfl, rfl, rfl, Nat.le_refl _, fun _ _ => rfl⟩
end Go.Proofs.YtjnjcjildiadgaaDoor.Disk
/- The walk of DiskArms. -/
namespace Go.Proofs.YtjnjcjildiadgaaDoor.Disk
open Go Go.RowKit Frame
theorem wrote_step (S0 : DSt) (ws : List Wr) (n : Nat) (a : Int) (t : ByteArray) (hl : S0.last.length = 64 * n) (hf : Fits n ws) :
    ∃ ws', wrote (wait S0 ws) a t = wait S0 ws' ∧ Fits n ws' ∧ ws'.length ≤ ws.length + 1 := by
  by_cases h : ans (wait S0 ws) a t = 0
  · obtain ⟨h1, h2⟩ := ans_zero h
    obtain ⟨_, h3, h4⟩ := chk_zero h1
    refine ⟨_, wrote_wait _ _ _ _ h, hf.append (fun x hx => ?_), by simp⟩
    simp only [List.mem_singleton] at hx
    subst hx
    have h5 : (wait S0 ws).last.length = 64 * n := hl
    exact ⟨by simp only; omega, h2⟩
  · exact ⟨ws, wrote_no _ _ _ h, hf, by omega⟩
/-- Behind some rounds: what lasts, how many syncs are left. -/
def armedSt (last : List UInt8) (m : Int) (C : Int) : DSt := ⟨last, [], true, true, m, C⟩
theorem good_armed {last : List UInt8} {ws : List Wr} {m C : Int} (hl : last.length = 64 * 6) (hf : Fits 6 ws) (hn : ws.length ≤ 1000) (hm : 0 ≤ m ∧ m ≤ 20) (hC : 0 ≤ C ∧ C ≤ 9223372036854775807) : Good 6 (wait (armedSt last m C) ws) :=
  ⟨hf, hl, by omega, by show ws.length ≤ 100000; omega, by show 0 ≤ m ∧ m ≤ 9223372036854775807; omega, hC⟩
structure ArmsI (W : World) (d L : Nat) (C m : Int) (k : Nat) (last : List UInt8) (ws : List Wr) (w : World) : Prop where
  len : last.length = 64 * 6
  fits : Fits 6 ws
  many : ws.length ≤ k
  one : One W.heap.size d L (wait (armedSt last m C) ws) w
  bel : Below W.heap.size W w
theorem all_length (n : Nat) (ws : List Wr) (s : List UInt8) (h : s.length = 64 * n) (hf : Fits n ws) : (all s ws).length = 64 * n := by
  rw [← done_all ws s (total ws) (Int.le_refl _)]
  exact done_length n ws s _ h hf
end Go.Proofs.YtjnjcjildiadgaaDoor.Disk
/- The walk of DiskKeeps. -/
namespace Go.Proofs.YtjnjcjildiadgaaDoor.Disk
open Go Go.RowKit Frame
theorem ans_congr {s s' : DSt} (ho : s.on = s'.on) (hl : s.last = s'.last) (k : Int) (t : ByteArray) : ans s k t = ans s' k t := by
  unfold ans chk
  rw [ho, hl]
def hasW (ws : List Wr) (i : Nat) : Bool := ws.any fun x => x.1 == i
def since (ws : List Wr) : Array Value := #[.bool (hasW ws 0), .bool (hasW ws 1), .bool (hasW ws 2), .bool (hasW ws 3), .bool (hasW ws 4), .bool (hasW ws 5)]
theorem since_set (ws : List Wr) (k : Nat) (t : ByteArray) (h : k < 6) : (since ws).setIfInBounds k (.bool true) = since (ws ++ [(k, t)]) := by
  have h' : k = 0 ∨ k = 1 ∨ k = 2 ∨ k = 3 ∨ k = 4 ∨ k = 5 := by omega
  rcases h' with rfl | rfl | rfl | rfl | rfl | rfl <;> simp [since, hasW]
theorem since_at (ws : List Wr) (k : Nat) (h : k < 6) : (since ws)[k]? = some (.bool (hasW ws k)) := by
  have h' : k = 0 ∨ k = 1 ∨ k = 2 ∨ k = 3 ∨ k = 4 ∨ k = 5 := by omega
  rcases h' with rfl | rfl | rfl | rfl | rfl | rfl <;> rfl
theorem hasW_no {ws : List Wr} {i : Nat} (h : hasW ws i = false) : ∀ x ∈ ws, x.1 ≠ i := by
  unfold hasW at h
  rw [List.any_eq_false] at h
  intro x hx e
  exact h x hx (by simpa using e)
/-- Two disks with the same bytes, both on; the same waits. -/
structure KeepI (W : World) (d1 L1 d2 L2 : Nat) (Sa Sb : DSt) (k : Nat) (ws : List Wr) (w : World) : Prop where
  fits : Fits 6 ws
  many : ws.length ≤ k
  two : Two W.heap.size d1 L1 d2 L2 (wait Sa ws) (wait Sb ws) w
  bel : Below W.heap.size W w
theorem good_any {S : DSt} {ws : List Wr} (hg : Good 6 S) (hf : Fits 6 ws) (hn : ws.length ≤ 1000) : Good 6 (wait S ws) :=
  ⟨hf, hg.len, hg.hn, by show ws.length ≤ 100000; omega, hg.syncs, hg.cut⟩
theorem wrote_both (Sa Sb : DSt) (ws : List Wr) (n : Nat) (a : Int) (t : ByteArray) (hl : Sa.last.length = 64 * n) (hf : Fits n ws) (ho : Sa.on = Sb.on) (he : Sa.last = Sb.last) :
    ∃ ws', wrote (wait Sa ws) a t = wait Sa ws' ∧ wrote (wait Sb ws) a t = wait Sb ws' ∧ Fits n ws' ∧ ws'.length ≤ ws.length + 1 ∧ (ans (wait Sa ws) a t = 0 → 0 ≤ a ∧ a < n ∧ ws' = ws ++ [(a.toNat, t)]) ∧ (ans (wait Sa ws) a t ≠ 0 → ws' = ws) := by
  have hc := ans_congr (s := wait Sa ws) (s' := wait Sb ws) ho he a t
  by_cases h : ans (wait Sa ws) a t = 0
  · obtain ⟨h1, h2⟩ := ans_zero h
    obtain ⟨_, h3, h4⟩ := chk_zero h1
    have h5 : (wait Sa ws).last.length = 64 * n := hl
    refine ⟨_, wrote_wait _ _ _ _ h, wrote_wait _ _ _ _ (by rw [← hc]; exact h), hf.append (fun x hx => ?_), by simp, fun _ => ⟨h3, by omega, rfl⟩, fun h' => absurd h h'⟩
    simp only [List.mem_singleton] at hx
    subst hx
    exact ⟨by simp only; omega, h2⟩
  · exact ⟨ws, wrote_no _ _ _ h, wrote_no _ _ _ (by rw [← hc]; exact h), hf, by omega, fun h' => absurd h' h, fun _ => rfl⟩
theorem Two.set_other {base d1 L1 d2 L2 : Nat} {s1 s2 : DSt} {w : World} (h : Two base d1 L1 d2 L2 s1 s2 w) {m i : Nat} {cs : Array Value} {t : TypeId} (hm : Has m cs t w) (h1 : t ≠ 55) (h2 : t ≠ 5) (h3 : t ≠ 58) (v : Value) :
    Two base d1 L1 d2 L2 s1 s2 (w.setCell ⟨m, i, none⟩ v) := by
  obtain ⟨v1, v2, k1, k2, hn⟩ := h
  have ht : Turn (fun k => k = m) w (w.setCell ⟨m, i, none⟩ v) := Turn.setCell (F := fun k => k = m) (p := ⟨m, i, none⟩) (Turn.refl _ _) (.inl rfl) v
  exact ⟨v1, v2, k1.turn ht (fun k e => by rw [e]; exact k1.apart hm h1 h2 h3), k2.turn ht (fun k e => by rw [e]; exact k2.apart hm h1 h2 h3), hn⟩
theorem below_drewN {B : Nat} {a w : World} (h : Below B a w) (n : Nat) : Below B a (w.drewN n) := ⟨h.os, h.tape, h.output, h.size, h.block⟩
theorem extract_mid (S : List UInt8) (a n : Nat) : (Oct.bs S).extract a (a + n) = Oct.bs ((S.drop a).take n) := Oct.ba_ext (by simp [Oct.bs])
end Go.Proofs.YtjnjcjildiadgaaDoor.Disk
/- The walks of the document's disk (stairwellref15): Held, New, put, Check, Done, Waits. -/
namespace Go.Proofs.YtjnjcjildiadgaaDoor.Disk
open Go Go.RowKit Frame
/-- The document's disk as a value; what waits lies in a row. -/
def RD (s : DSt) (v : Value) : Value := .agg #[.string (Oct.bs s.last), v, .bool s.on, .bool s.armed, .int .i64 s.syncs, .int .i64 s.cut]
def heldN (n most : Int) : Int := max 0 (min n most)
theorem below6 {B b : Nat} {a w : World} (h : Below B a w) (hb : B ≤ b) (v0 v1 v2 v3 v4 v5 : Value) :
    Below B a ((((((w.setCell ⟨b, 0, none⟩ v0).setCell ⟨b, 1, none⟩ v1).setCell ⟨b, 2, none⟩ v2).setCell ⟨b, 3, none⟩ v3).setCell ⟨b, 4, none⟩ v4).setCell ⟨b, 5, none⟩ v5) :=
  (((((h.setCell (p := ⟨b, 0, none⟩) hb v0).setCell (p := ⟨b, 1, none⟩) hb v1).setCell (p := ⟨b, 2, none⟩) hb v2).setCell (p := ⟨b, 3, none⟩) hb v3).setCell (p := ⟨b, 4, none⟩) hb v4).setCell (p := ⟨b, 5, none⟩) hb v5
theorem put_bytes (s : List UInt8) (k : Nat) (t : ByteArray) : ((Oct.bs s).extract 0 (64 * k) ++ t) ++ (Oct.bs s).extract (64 * k + t.size) (Oct.bs s).size = Oct.bs (put s k t.data.toList) := by
  apply Oct.ba_ext
  simp only [ByteArray.data_append, Array.toList_append, put, Oct.bs_toList]
  have e1 : ((Oct.bs s).extract 0 (64 * k)).data.toList = s.take (64 * k) := by simp [Oct.bs]
  have e2 : ((Oct.bs s).extract (64 * k + t.size) (Oct.bs s).size).data.toList = s.drop (64 * k + t.data.toList.length) := by
    rw [Oct.bs_size]
    simp [Oct.bs]
    exact List.take_of_length_le (by simp)
  rw [e1, e2, List.append_assoc]
end Go.Proofs.YtjnjcjildiadgaaDoor.Disk
/- The walks of the document's disk: Check, Waits, Done, Read. -/
namespace Go.Proofs.YtjnjcjildiadgaaDoor.Disk
open Go Go.RowKit Frame
/-- The six cells of a disk of the document's in a block. -/
def RCells (s : DSt) (v : Value) : Array Value := #[.string (Oct.bs s.last), v, .bool s.on, .bool s.armed, .int .i64 s.syncs, .int .i64 s.cut]
section
variable {b : Nat} {s : DSt} {v : Value} {w : World}
end
theorem heldN_upto (c : Int) (n : Nat) : heldN c (n : Int) = ((upto c n : Nat) : Int) := by unfold heldN upto; omega
end Go.Proofs.YtjnjcjildiadgaaDoor.Disk
/- The walks of the document's disk: Put, Down, Sync, Arm, Up. -/
namespace Go.Proofs.YtjnjcjildiadgaaDoor.Disk
open Go Go.RowKit Frame
def rdown (s : DSt) (c : Int) : DSt := if s.on then ⟨done s.last s.wait c, [], false, false, 0, 0⟩ else s
def rup (s : DSt) : DSt := if s.on then s else ⟨s.last, [], true, false, 0, 0⟩
theorem below2 (w : World) (o1 o2 : Obj) : Below w.heap.size w ((w.alloc o1).alloc o2) := ((Below.refl _ _).alloc (Nat.le_refl _) _).alloc (by simp) _
def zeroR : Array Value := #[.string { data := #[] }, .slice none 0 0, .bool false, .bool false, .int .i64 0, .int .i64 0]
end Go.Proofs.YtjnjcjildiadgaaDoor.Disk
/- The walks of the document's disk: Sync. -/
namespace Go.Proofs.YtjnjcjildiadgaaDoor.Disk
open Go Go.RowKit Frame
def rsync (s : DSt) : DSt × Int :=
  if s.on then (if s.armed && s.syncs == 0 then (rdown s s.cut, 16) else ({ s with last := all s.last s.wait, wait := [], syncs := if s.armed then s.syncs - 1 else s.syncs }, 0)) else (s, 16)
theorem rsync_off (s : DSt) (h : s.on = false) : rsync s = (s, 16) := by simp [rsync, h]
theorem rsync_gone (s : DSt) (h : s.on = true) (ha : s.armed = true) (hz : s.syncs = 0) : rsync s = (rdown s s.cut, 16) := by simp [rsync, h, ha, hz]
theorem rsync_armed (s : DSt) (h : s.on = true) (ha : s.armed = true) (hz : s.syncs ≠ 0) : rsync s = (⟨all s.last s.wait, [], s.on, s.armed, s.syncs - 1, s.cut⟩, 0) := by simp [rsync, h, ha, hz]
theorem rsync_not (s : DSt) (h : s.on = true) (ha : s.armed = false) : rsync s = (⟨all s.last s.wait, [], s.on, s.armed, s.syncs, s.cut⟩, 0) := by simp [rsync, h, ha]
end Go.Proofs.YtjnjcjildiadgaaDoor.Disk
/- The walks of the document's disk: Put. -/
namespace Go.Proofs.YtjnjcjildiadgaaDoor.Disk
open Go Go.RowKit Frame
theorem has_grown {b : Nat} {cs : Array Value} {t : TypeId} {w w' : World} {row : Option Nat} (h : Has b cs t w) (hg : w.grownBy w' row) (hne : some b ≠ row) : Has b cs t w' := (hg.block b h.lt hne).trans h
theorem below_grown {B : Nat} {a w w' : World} {row : Option Nat} (h : Below B a w) (hg : w.grownBy w' row) (hB : B ≤ w.heap.size) (hr : ∀ g, row = some g → B ≤ g) : Below B a w' :=
  ⟨hg.os.trans h.os, hg.tape.trans h.tape, hg.output.trans h.output, Nat.le_trans h.size hg.size, fun i hi => (hg.block i (by omega) (fun e => by have := hr i e.symm; omega)).trans (h.block i hi)⟩
theorem rows_one (ws : List Wr) : ∀ u ∈ rows ws, u.oneCell' = true := by
  intro u hu
  simp only [rows, List.mem_flatMap] at hu
  obtain ⟨x, _, hx⟩ := hu
  simp at hx
  rcases hx with rfl | rfl <;> rfl
end Go.Proofs.YtjnjcjildiadgaaDoor.Disk
/- The walk of disk.Disk.Read. -/
namespace Go.Proofs.YtjnjcjildiadgaaDoor.Disk
open Go Go.RowKit Frame
/-- A block of 64 bytes of a disk. -/
def blk (l : List UInt8) (k : Nat) : List UInt8 := (l.drop (64 * k)).take 64
theorem blk_length (l : List UInt8) (k n : Nat) (hl : l.length = 64 * n) (hk : k < n) : (blk l k).length = 64 := by unfold blk; simp; omega
theorem blk_put (l : List UInt8) (k n : Nat) (d : List UInt8) (hl : l.length = 64 * n) (hk : k < n) (hd : d.length ≤ 64) : blk (put l k d) k = d ++ (blk l k).drop d.length := by
  unfold blk put
  have h1 : (l.take (64 * k)).length = 64 * k := by simp; omega
  rw [List.drop_append_of_le_length (by omega), List.drop_of_length_le (by omega), List.nil_append, List.take_append, List.take_of_length_le hd]
  congr 1
  rw [List.drop_take, List.drop_drop]
theorem size1U8 : (Tryd.prog.info? 5).map (·.size) = some 1 := by
  have h := infoU8
  simp only [Option.map_eq_some_iff] at h ⊢
  obtain ⟨i, hi, he⟩ := h
  simp only [Prod.mk.injEq] at he
  exact ⟨i, hi, he.2.1⟩
/-- What Read has gathered of some of the writes. -/
structure ReadI (last : List UInt8) (ws : List Wr) (q k : Nat) (w wr : World) : Prop where
  has : Has w.heap.size (bcells (blk (all last (ws.take k)) q)) 94 wr
  bel : Below w.heap.size w wr
theorem setCells_has {b : Nat} {l d : List UInt8} {t : TypeId} {w : World} (h : Has b (bcells l) t w) (hl : d.length ≤ l.length) : Has b (bcells (d ++ l.drop d.length)) t (w.setCells b 0 (d.map fun x : UInt8 => Value.int .u8 (x.toNat : Int))) := by
  have := Has.setCells (d.map fun x : UInt8 => Value.int .u8 (x.toNat : Int)) 0 _ _ h (by simpa using hl)
  simpa [bcells, List.map_drop] using this
theorem setCells_below {B b o : Nat} {a w : World} (h : Below B a w) (hb : B ≤ b) (hB : B ≤ w.heap.size) (vs : List Value) : Below B a (w.setCells b o vs) :=
  Only.to_below h (Only.setCells vs o _ (Only.refl b w)) hb hB
theorem all_snoc (s : List UInt8) (ws : List Wr) (b : Nat) (t : ByteArray) : all s (ws ++ [(b, t)]) = put (all s ws) b t.data.toList := by
  rw [all_append]
  rfl
set_option maxRecDepth 100000 in
set_option maxHeartbeats 2000000 in
theorem Read_yes (base d L n : Nat) (wv : Value) (s : DSt) (q : Nat) (hc : chk s q = 0) (hs : Good n s) (w : World) (h : Dk base d L wv s w) :
    Calls Tryd.prog 43 #[.pointer (some ⟨d, 0, none⟩), .int .i64 (q : Int)] w fun e w' => e = .returned (.tuple #[.string (Oct.bs (blk (all s.last s.wait) q)), .int .i64 0]) ∧ Below w.heap.size w w' := by
  have hl : s.last.length ≤ 262144 := by have := hs.len; have := hs.hn; omega
  have HC := Lib.hid (check_calls base d L wv s q hl _ h)
  rw [hc] at HC
  have hqn : q < n := by
    obtain ⟨_, _, h4⟩ := chk_zero hc
    have := hs.len
    omega
  have hll := hs.len
  have hn := hs.hn
  have HG := Lib.hid hs
  have H := Lib.hid h
  have hLw := h.l.lt
  have hdw := h.h.lt
  have HBL := Lib.hid (blk_length s.last q n hs.len hqn)
  clear hs h hc
  go_enter Tryd.func43, Tryd.ntmps43
  go_wp2_with fail
  refine HC.out.mono ?_
  rintro e w1 ⟨rfl, rfl⟩
  have e1 : IntKind.i64.wrap ((q : Int) * 64) = (q : Int) * 64 := IntWalk.i64_in _ (by omega)
  have hk0 : (0 : Int) ≤ (q : Int) * 64 := by omega
  have hk1 : (q : Int) * 64 ≤ 64 * (n : Int) := by omega
  have hk2 : (q : Int) * 64 < 64 * (n : Int) := by omega
  have hk3 : q * 64 < 64 * n := by omega
  have hk5 : ((q : Int) * 64).toNat = q * 64 := by omega
  have hk6 : ¬ 64 * n = q * 64 := by omega
  have hk4 : q * 64 ≤ 64 * n := by omega
  go_wp2_with fail
  change Code.wp _ _ _ _ (w.alloc (.cells (bcells (List.replicate 64 0)) 94))
  have HW1 := Lib.hid (Has.new w (bcells (List.replicate 64 0)) 94)
  have HB1 := Lib.hid ((Below.refl w.heap.size w).alloc (Nat.le_refl _) (.cells (bcells (List.replicate 64 0)) 94))
  generalize w.alloc (.cells (bcells (List.replicate 64 0)) 94) = w1 at *
  have H1 := Lib.hid (H.out.below HB1.out)
  have y0 : w1.drew.cell? ⟨d, 0, none⟩ = some (.slice (some ⟨L, 0, none⟩) s.last.length s.last.length) := H1.out.c0
  have hcs : ((blk s.last q).map fun x : UInt8 => Value.int .u8 (x.toNat : Int)).length = 64 := by rw [List.length_map]; exact HBL.out
  have HCP := Lib.hid (run_copy_cells (P := Tryd.prog) w1.drew 52 52 3 5 w.heap.size 0 64 64 ⟨L, q * 64, none⟩ (64 * n - q * 64) (64 * n - q * 64) ((blk s.last q).map fun x : UInt8 => Value.int .u8 (x.toNat : Int)) Tryd.underlying52 size1U8
    (by rw [hcs]; show 64 = min (64 * n - q * 64) 64; omega)
    (fun j v hj => by
      have hadd : (⟨L, q * 64, none⟩ : Addr).add j = ⟨L, q * 64 + j, none⟩ := by unfold Addr.add; split <;> simp_all
      rw [hadd, H1.out.l.drew.cell]
      have hjl : j < 64 := by
        rcases Nat.lt_or_ge j 64 with h | h
        · exact h
        · rw [List.getElem?_eq_none (by rw [hcs]; exact h)] at hj; cases hj
      rw [← hj]
      simp only [bcells, blk, List.getElem?_toArray, List.getElem?_map, List.getElem?_take_of_lt hjl, List.getElem?_drop]
      rw [Nat.mul_comm q 64])
    (fun j hj => by
      rw [hcs] at hj
      rw [HW1.out.drew.cell, Array.getElem?_eq_getElem (by simp [bcells]; omega)]
      rfl)
    (fun j _ => HW1.out.drew.frozen _)
    (fun v hv => by
      rw [List.mem_map] at hv
      obtain ⟨x, _, rfl⟩ := hv
      rfl))
  clear hcs
  have hsz1 : w.heap.size ≤ w1.drew.heap.size := HB1.out.size
  have z0 := ((Only.setCells ((blk s.last q).map fun x : UInt8 => Value.int .u8 (x.toNat : Int)) 0 _ (Only.refl w.heap.size w1.drew)).cell (p := ⟨d, 0, none⟩) (by show d < _; omega) (by show d ≠ _; omega)).trans y0
  have Z0 := Lib.hid z0
  clear z0
  go_wp2_with fail
  go_region_held3 (fun w' => w'.cell? ⟨d, 0, none⟩ = some (.slice (some ⟨L, 0, none⟩) s.last.length s.last.length)) (first | exact y0 | exact Z0.out)
    ((refine step_copy_runI rfl _ _ _ _ (by rfl) _ _ (by rfl) (by rfl) HCP.out ?_))
  have HI := Lib.hid (show ReadI s.last s.wait q 0 w (w1.drew.setCells w.heap.size 0 ((blk s.last q).map fun x : UInt8 => Value.int .u8 (x.toNat : Int))) from
    ⟨by
      have h := setCells_has HW1.out.drew (d := blk s.last q) (by rw [HBL.out]; simp)
      rw [HBL.out, List.drop_of_length_le (by simp), List.append_nil] at h
      exact h, setCells_below HB1.out.drew (Nat.le_refl _) hsz1 _⟩)
  clear HW1 y0 Z0 HCP
  generalize w1.drew.setCells w.heap.size 0 ((blk s.last q).map fun x : UInt8 => Value.int .u8 (x.toNat : Int)) = w2 at *
  obtain ⟨A, cap, rfl, hrow⟩ := H.out.row
  have HR := Lib.hid hrow
  have c1 := (HI.out.bel.cell (p := ⟨d, 1, none⟩) hdw).trans H.out.c1
  have hmn := HG.out.many
  clear hrow
  go_wp2_with fail
  go_loopw [30] (fun i wr => ∃ k : Nat, k ≤ s.wait.length ∧ i = .int .i64 k ∧ Hid (ReadI s.last s.wait q k w wr)) (fun i _ => s.wait.length - (intOf i).toNat)
  case atStart => exact ⟨0, by omega, rfl, HI⟩
  case round =>
    obtain ⟨k, hk, rfl, hI⟩ := hrel
    by_cases hlt : k < s.wait.length
    · obtain ⟨g, rfl, hg, hi⟩ := HR.out (by omega)
      obtain ⟨r0, r1⟩ := hi k hlt
      have hcc := fun o => hI.out.bel.cell (p := ⟨g, o, none⟩) hg
      rw [← hcc] at r0 r1
      clear hi hcc
      have hfx := HG.out.fits _ (show s.wait.getD k (0, ByteArray.empty) ∈ s.wait by simp [List.getD_eq_getElem?_getD, hlt])
      have HS := Lib.hid (take_snoc s.wait k hlt)
      have hal := all_length n (s.wait.take k) s.last HG.out.len (fun x hx => HG.out.fits x (List.mem_of_mem_take hx))
      have HAL := Lib.hid hal
      clear hal
      generalize s.wait.getD k (0, ByteArray.empty) = x at *
      obtain ⟨b, t⟩ := x
      simp only at hfx r0 r1
      by_cases hb : b = q
      · subst hb
        have HBL2 := Lib.hid (blk_length _ b n HAL.out hqn)
        have hX : Has wr.heap.size #[.int .i64 (b : Int), .string t] 58 (wr.alloc (.cells #[.int .i64 (b : Int), .string t] 58)).drew := (Has.new _ _ _).drew
        have hRX : Has w.heap.size (bcells (blk (all s.last (s.wait.take k)) b)) 94 (wr.alloc (.cells #[.int .i64 (b : Int), .string t] 58)).drew := (hI.out.has.alloc _).drew
        have x1 := hX.cell 1
        have hwr := hI.out.has.lt
        have z1 := ((Only.setCells (t.data.toList.map fun x : UInt8 => Value.int .u8 (x.toNat : Int)) 0 _ (Only.refl w.heap.size (wr.alloc (.cells #[.int .i64 (b : Int), .string t] 58)).drew)).cell (p := ⟨wr.heap.size, 1, none⟩) hX.lt (by show wr.heap.size ≠ _; omega)).trans x1
        have hcl : ∀ j, j < t.size → ((wr.alloc (.cells #[.int .i64 (b : Int), .string t] 58)).drew.cell? ⟨w.heap.size, 0 + j, none⟩).isSome = true := fun j hj => by
          rw [hRX.cell, Array.getElem?_eq_getElem (by simp only [bcells, List.size_toArray, List.length_map, HBL2.out]; omega)]
          rfl
        have hfl : ∀ j, j < t.size → (wr.alloc (.cells #[.int .i64 (b : Int), .string t] 58)).drew.frozen? ⟨w.heap.size, 0 + j, none⟩ = false := fun j _ => hRX.frozen _
        have HCL := Lib.hid hcl
        have HFL := Lib.hid hfl
        have Z1 := Lib.hid z1
        have HT64 := Lib.hid hfx.2
        have HJ := Lib.hid (show ReadI s.last s.wait b (k + 1) w ((wr.alloc (.cells #[.int .i64 (b : Int), .string t] 58)).drew.setCells w.heap.size 0 (t.data.toList.map fun x : UInt8 => Value.int .u8 (x.toNat : Int))) from
          ⟨by
            rw [HS.out, all_snoc, blk_put _ b n _ HAL.out hqn (by simpa using hfx.2)]
            exact setCells_has hRX (by rw [HBL2.out]; simpa using hfx.2), setCells_below ((hI.out.bel.alloc hI.out.bel.size _).drew) (Nat.le_refl _) (by have := hRX.lt; omega) _⟩)
        clear hcl hfl z1 hX hRX
        go_wp2_with fail
        go_region_held3 (fun w' => w'.cell? ⟨wr.heap.size, 1, none⟩ = some (.string t)) (first | exact x1 | exact Z1.out)
          ((refine step_copy_string rfl _ _ _ _ (by rfl) 5 Tryd.underlying52 sizeU8 w.heap.size 0 64 64 (by rfl) t (by rfl) HT64.out HCL.out HFL.out ?_))
        clear x1 Z1 HCL HFL
        generalize (wr.alloc (.cells #[.int .i64 (b : Int), .string t] 58)).drew.setCells w.heap.size 0 (t.data.toList.map fun x : UInt8 => Value.int .u8 (x.toNat : Int)) = w5 at *
        go_wp2_with fail
        exact ⟨⟨k + 1, by omega, by go_num, HJ⟩, by simp [intOf]; omega⟩
      · have hb' : ((b : Int) == (q : Int)) = false := by simp; omega
        have HJ := Lib.hid (show ReadI s.last s.wait q (k + 1) w (wr.alloc (.cells #[.int .i64 (b : Int), .string t] 58)) from
          ⟨by
            rw [HS.out, all_snoc, show blk (put (all s.last (s.wait.take k)) b t.data.toList) q = blk (all s.last (s.wait.take k)) q from
              put_other _ b _ n q HAL.out hfx.1 (by simpa using hfx.2) (fun e => hb e.symm)]
            exact hI.out.has.alloc _, hI.out.bel.alloc hI.out.bel.size _⟩)
        clear hb
        go_wp2_with fail
        exact ⟨⟨k + 1, by omega, by go_num, HJ⟩, by simp [intOf]; omega⟩
    · obtain rfl : k = s.wait.length := by omega
      have hw := hI.out.has
      rw [List.take_length] at hw
      have hal := all_length n s.wait s.last HG.out.len HG.out.fits
      have hbl := blk_length _ q n hal hqn
      generalize hrr : blk (all s.last s.wait) q = r at *
      have HRR := Lib.hid hrr
      clear hrr
      have hby : Lib.Bytes wr w.heap.size 0 (Oct.bs r) := fun i hi => by
        rw [hw.cell]
        have hi' : i < r.length := by rw [← Oct.bs_size]; exact hi
        simp only [bcells, Nat.zero_add, List.getElem?_toArray, List.getElem?_map, List.getElem?_eq_getElem hi', Option.map_some]
        rfl
      have hcv := Lib.run_convert_whole (P := Tryd.prog) wr 52 5 9 Tryd.underlying52 Tryd.underlying5 Tryd.underlying9 w.heap.size 0 (Oct.bs r) hby 64
      rw [Oct.bs_size, hbl] at hcv
      clear hby hw hal hbl
      go_wp2_with fail
      go_ret2
      rw [HRR.out]
      exact ⟨rfl, hI.out.bel⟩
end Go.Proofs.YtjnjcjildiadgaaDoor.Disk
