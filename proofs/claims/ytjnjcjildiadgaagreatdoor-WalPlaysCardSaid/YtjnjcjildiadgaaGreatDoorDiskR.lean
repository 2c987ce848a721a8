/- Merged: DiskActs, DiskFalls, DiskArms, DiskKeeps, DiskRef, DiskRefB, DiskRefC, DiskRefD, DiskRefE, DiskRead. -/
import Derived.Test.YtjnjcjildiadgaaGreatDoorDiskAwake
import Derived.Deep.RegionHeld3
import Derived.Deep.QuietTactic
import Derived.BigQuiet
import Derived.Deep.RegionWith
import Derived.Laws.AppendOwnNone
import Derived.Shelf.Spec.SlicesInsert
/- Acts of stairwelllaw15: how they lie, opened; Light. -/
namespace Go.Proofs.YtjnjcjildiadgaaGreatDoor.Disk
open Go Go.RowKit Go.ChangeShapes Go.WideShapes Frame
structure DAct where
  kind : UInt8
  at_ : Int
  cut : Int
  text : ByteArray
  deriving Inhabited
def DAct.Ok (x : DAct) : Prop := (-9223372036854775808 ≤ x.at_ ∧ x.at_ ≤ 9223372036854775807) ∧ (-9223372036854775808 ≤ x.cut ∧ x.cut ≤ 9223372036854775807) ∧ x.text.size ≤ maxLen
def ActAt (b o : Nat) (x : DAct) (w : World) : Prop :=
  w.cell? ⟨b, o, none⟩ = some (.int .u8 x.kind.toNat) ∧ w.cell? ⟨b, o + 1, none⟩ = some (.int .i64 x.at_) ∧ w.cell? ⟨b, o + 2, none⟩ = some (.int .i64 x.cut) ∧ w.cell? ⟨b, o + 3, none⟩ = some (.string x.text)
/-- A slice of acts, in a block below B. -/
def Acts (B : Nat) (A : Option Addr) (l : List DAct) (w : World) : Prop :=
  0 < l.length → ∃ b off, A = some ⟨b, off, none⟩ ∧ b < B ∧ ∀ i, i < l.length → ActAt b (off + i * 4) (l.getD i default) w
theorem Acts.below {B : Nat} {A : Option Addr} {l : List DAct} {w w' : World} (h : Acts B A l w) (hb : Below B w w') : Acts B A l w' := fun h0 => by
  obtain ⟨b, off, hA, hlt, hi⟩ := h h0
  refine ⟨b, off, hA, hlt, fun i hil => ?_⟩
  obtain ⟨c0, c1, c2, c3⟩ := hi i hil
  have hc := fun o => hb.cell (p := ⟨b, o, none⟩) hlt
  exact ⟨by rw [hc]; exact c0, by rw [hc]; exact c1, by rw [hc]; exact c2, by rw [hc]; exact c3⟩
theorem Acts.more {B B' : Nat} {A : Option Addr} {l : List DAct} {w : World} (h : Acts B A l w) (hB : B ≤ B') : Acts B' A l w := fun h0 => by
  obtain ⟨b, off, hA, hlt, hi⟩ := h h0
  exact ⟨b, off, hA, by omega, hi⟩
theorem take_succ_getD {α : Type} [Inhabited α] (l : List α) (k : Nat) (h : k < l.length) : l.take (k + 1) = l.take k ++ [l.getD k default] := by
  rw [List.take_succ_eq_append_getElem h]; simp [List.getD_eq_getElem?_getD, h]
theorem getD_mem {α : Type} [Inhabited α] (l : List α) (k : Nat) (h : k < l.length) : l.getD k default ∈ l := by
  simp [List.getD_eq_getElem?_getD, h]
theorem mem_getD {α : Type} [Inhabited α] {l : List α} {x : α} (h : x ∈ l) : ∃ i, i < l.length ∧ l.getD i default = x := by
  obtain ⟨i, hi, rfl⟩ := List.getElem_of_mem h
  exact ⟨i, hi, by simp [List.getD_eq_getElem?_getD, hi]⟩
theorem cell_lt {w : World} {a : Addr} {v : Value} (h : w.cell? a = some v) : a.block < w.heap.size := by
  rcases Nat.lt_or_ge a.block w.heap.size with h1 | h1
  · exact h1
  · simp [World.cell?, Array.getElem?_eq_none h1] at h
def lightB (l : List DAct) : Bool := (l.all fun x => decide (x.text.size ≤ 80)) && decide (l.length ≤ 60)
theorem light_iff {l : List DAct} (h : lightB l = true) : l.length ≤ 60 ∧ ∀ x ∈ l, x.text.size ≤ 80 := by
  unfold lightB at h
  simp at h
  exact ⟨h.2, h.1⟩
end Go.Proofs.YtjnjcjildiadgaaGreatDoor.Disk
/- The walk of DiskFalls. -/
namespace Go.Proofs.YtjnjcjildiadgaaGreatDoor.Disk
open Go Go.RowKit Frame
def wait (s : DSt) (ws : List Wr) : DSt := { s with wait := ws }
theorem wrote_wait (s : DSt) (ws : List Wr) (k : Int) (t : ByteArray) (h : ans (wait s ws) k t = 0) : wrote (wait s ws) k t = wait s (ws ++ [(k.toNat, t)]) := by
  unfold wrote
  rw [if_pos h]
  rfl
theorem wrote_no (s : DSt) (k : Int) (t : ByteArray) (h : ans s k t ≠ 0) : wrote s k t = s := by
  unfold wrote
  rw [if_neg h]
theorem wr_cut (s : DSt) (ws vs : List Wr) (k : Int) (t t' : ByteArray) (h : ans (wait s ws) k t = 0) (ht : t'.size ≤ t.size) : ans (wait s vs) k t' = 0 := by
  obtain ⟨h1, h2⟩ := ans_zero h
  have h3 : chk (wait s vs) k = 0 := h1
  unfold ans
  rw [if_neg (by simp [h3]), if_neg (by omega)]
/-- What the loop has done behind some acts. -/
structure FallsI (W : World) (d1 L1 d2 L2 : Nat) (c0 : Int) (k : Nat) (ws : List Wr) (w : World) : Prop where
  fits : Fits 6 ws
  len : ws.length ≤ k
  two : Two W.heap.size d1 L1 d2 L2 (wait (fresh 6) ws) (wait (fresh 6) (cutws ws c0)) w
  bel : Below W.heap.size W w
theorem good_wait {ws : List Wr} (hf : Fits 6 ws) (hl : ws.length ≤ 1000) : Good 6 (wait (fresh 6) ws) := by
  have h := Good.fresh 6 (by decide)
  exact ⟨hf, h.len, h.hn, by show ws.length ≤ 100000; omega, h.syncs, h.cut⟩
theorem FallsI.start {W : World} {d1 L1 d2 L2 : Nat} {c0 : Int} {w : World} (h : Two W.heap.size d1 L1 d2 L2 (fresh 6) (fresh 6) w) (hb : Below W.heap.size W w) : FallsI W d1 L1 d2 L2 c0 0 [] w :=
  ⟨(fun x hx => by cases hx), by simp, h, hb⟩
theorem upto_min (a : Int) (n m : Nat) (hm : min a (n : Int) = (m : Int)) : upto a n = m := by unfold upto; omega
/-- One more write, done to both. -/
theorem FallsI.next {W : World} {d1 L1 d2 L2 : Nat} {c0 : Int} {k : Nat} {ws : List Wr} {w w' : World} {a : Int} {t : ByteArray} {n : Nat} (h : FallsI W d1 L1 d2 L2 c0 k ws w) (hz : ans (wait (fresh 6) ws) a t = 0) (hn : upto (left ws c0) t.size = n)
    (ht : Two W.heap.size d1 L1 d2 L2 (wait (fresh 6) (ws ++ [(a.toNat, t)])) (wait (fresh 6) (cutws ws c0 ++ [(a.toNat, t.extract 0 n)])) w') (hb : Below W.heap.size W w') : FallsI W d1 L1 d2 L2 c0 (k + 1) (ws ++ [(a.toNat, t)]) w' := by
  obtain ⟨h1, h2⟩ := ans_zero hz
  obtain ⟨_, h3, h4⟩ := chk_zero h1
  have hl : (wait (fresh 6) ws).last.length = 64 * 6 := (Good.fresh 6 (by decide)).len
  refine ⟨h.fits.append (fun x hx => ?_), by have := h.len; simp; omega, ?_, hb⟩
  · simp only [List.mem_singleton] at hx
    subst hx
    exact ⟨by simp only; omega, h2⟩
  · rw [cutws_append]
    simp only [cutws, hn]
    exact ht
theorem left_snoc (ws : List Wr) (k : Nat) (t : ByteArray) (c : Int) (n : Nat) (hn : upto (left ws c) t.size = n) : left (ws ++ [(k, t)]) c = left ws c - (n : Int) := by
  rw [left_append]
  simp only [left, hn]
theorem Good.down {n : Nat} {s : DSt} (h : Good n s) (c : Int) : Good n (down s c) := by
  unfold Disk.down
  split
  · exact ⟨(fun x hx => by cases hx), done_length n _ _ _ h.len h.fits, h.hn, Nat.zero_le _, h.syncs, h.cut⟩
  · exact h
theorem Two.drew {base d1 L1 d2 L2 : Nat} {s1 s2 : DSt} {w : World} (h : Two base d1 L1 d2 L2 s1 s2 w) : Two base d1 L1 d2 L2 s1 s2 w.drew := h.below ⟨rfl, rfl, rfl, Nat.le_refl _, fun _ _ => rfl⟩
end Go.Proofs.YtjnjcjildiadgaaGreatDoor.Disk
/- The walk of DiskArms. -/
namespace Go.Proofs.YtjnjcjildiadgaaGreatDoor.Disk
open Go Go.RowKit Frame
theorem wrote_step (S0 : DSt) (ws : List Wr) (n : Nat) (a : Int) (t : ByteArray) (hl : S0.last.length = 64 * n) (hf : Fits n ws) :
    ∃ ws', wrote (wait S0 ws) a t = wait S0 ws' ∧ Fits n ws' ∧ ws'.length ≤ ws.length + 1 := by
  by_cases h : ans (wait S0 ws) a t = 0
  · obtain ⟨h1, h2⟩ := ans_zero h
    obtain ⟨_, h3, h4⟩ := chk_zero h1
    refine ⟨_, wrote_wait _ _ _ _ h, hf.append (fun x hx => ?_), by simp⟩
    simp only [List.mem_singleton] at hx
    subst hx
    have h5 : (wait S0 ws).last.length = 64 * n := hl
    exact ⟨by simp only; omega, h2⟩
  · exact ⟨ws, wrote_no _ _ _ h, hf, by omega⟩
/-- Behind some rounds: what lasts, how many syncs are left. -/
def armedSt (last : List UInt8) (m : Int) (C : Int) : DSt := ⟨last, [], true, true, m, C⟩
theorem good_armed {last : List UInt8} {ws : List Wr} {m C : Int} (hl : last.length = 64 * 6) (hf : Fits 6 ws) (hn : ws.length ≤ 1000) (hm : 0 ≤ m ∧ m ≤ 20) (hC : 0 ≤ C ∧ C ≤ 9223372036854775807) : Good 6 (wait (armedSt last m C) ws) :=
  ⟨hf, hl, by omega, by show ws.length ≤ 100000; omega, by show 0 ≤ m ∧ m ≤ 9223372036854775807; omega, hC⟩
structure ArmsI (W : World) (d L : Nat) (C m : Int) (k : Nat) (last : List UInt8) (ws : List Wr) (w : World) : Prop where
  len : last.length = 64 * 6
  fits : Fits 6 ws
  many : ws.length ≤ k
  one : One W.heap.size d L (wait (armedSt last m C) ws) w
  bel : Below W.heap.size W w
theorem all_length (n : Nat) (ws : List Wr) (s : List UInt8) (h : s.length = 64 * n) (hf : Fits n ws) : (all s ws).length = 64 * n := by
  rw [← done_all ws s (total ws) (Int.le_refl _)]
  exact done_length n ws s _ h hf
end Go.Proofs.YtjnjcjildiadgaaGreatDoor.Disk
/- The walk of DiskKeeps. -/
namespace Go.Proofs.YtjnjcjildiadgaaGreatDoor.Disk
open Go Go.RowKit Frame
theorem ans_congr {s s' : DSt} (ho : s.on = s'.on) (hl : s.last = s'.last) (k : Int) (t : ByteArray) : ans s k t = ans s' k t := by
  unfold ans chk
  rw [ho, hl]
def hasW (ws : List Wr) (i : Nat) : Bool := ws.any fun x => x.1 == i
def since (ws : List Wr) : Array Value := #[.bool (hasW ws 0), .bool (hasW ws 1), .bool (hasW ws 2), .bool (hasW ws 3), .bool (hasW ws 4), .bool (hasW ws 5)]
theorem since_set (ws : List Wr) (k : Nat) (t : ByteArray) (h : k < 6) : (since ws).setIfInBounds k (.bool true) = since (ws ++ [(k, t)]) := by
  have h' : k = 0 ∨ k = 1 ∨ k = 2 ∨ k = 3 ∨ k = 4 ∨ k = 5 := by omega
  rcases h' with rfl | rfl | rfl | rfl | rfl | rfl <;> simp [since, hasW]
theorem since_at (ws : List Wr) (k : Nat) (h : k < 6) : (since ws)[k]? = some (.bool (hasW ws k)) := by
  have h' : k = 0 ∨ k = 1 ∨ k = 2 ∨ k = 3 ∨ k = 4 ∨ k = 5 := by omega
  rcases h' with rfl | rfl | rfl | rfl | rfl | rfl <;> rfl
theorem hasW_no {ws : List Wr} {i : Nat} (h : hasW ws i = false) : ∀ x ∈ ws, x.1 ≠ i := by
  unfold hasW at h
  rw [List.any_eq_false] at h
  intro x hx e
  exact h x hx (by simpa using e)
/-- Two disks with the same bytes, both on; the same waits. -/
structure KeepI (W : World) (d1 L1 d2 L2 : Nat) (Sa Sb : DSt) (k : Nat) (ws : List Wr) (w : World) : Prop where
  fits : Fits 6 ws
  many : ws.length ≤ k
  two : Two W.heap.size d1 L1 d2 L2 (wait Sa ws) (wait Sb ws) w
  bel : Below W.heap.size W w
theorem good_any {S : DSt} {ws : List Wr} (hg : Good 6 S) (hf : Fits 6 ws) (hn : ws.length ≤ 1000) : Good 6 (wait S ws) :=
  ⟨hf, hg.len, hg.hn, by show ws.length ≤ 100000; omega, hg.syncs, hg.cut⟩
theorem wrote_both (Sa Sb : DSt) (ws : List Wr) (n : Nat) (a : Int) (t : ByteArray) (hl : Sa.last.length = 64 * n) (hf : Fits n ws) (ho : Sa.on = Sb.on) (he : Sa.last = Sb.last) :
    ∃ ws', wrote (wait Sa ws) a t = wait Sa ws' ∧ wrote (wait Sb ws) a t = wait Sb ws' ∧ Fits n ws' ∧ ws'.length ≤ ws.length + 1 ∧ (ans (wait Sa ws) a t = 0 → 0 ≤ a ∧ a < n ∧ ws' = ws ++ [(a.toNat, t)]) ∧ (ans (wait Sa ws) a t ≠ 0 → ws' = ws) := by
  have hc := ans_congr (s := wait Sa ws) (s' := wait Sb ws) ho he a t
  by_cases h : ans (wait Sa ws) a t = 0
  · obtain ⟨h1, h2⟩ := ans_zero h
    obtain ⟨_, h3, h4⟩ := chk_zero h1
    have h5 : (wait Sa ws).last.length = 64 * n := hl
    refine ⟨_, wrote_wait _ _ _ _ h, wrote_wait _ _ _ _ (by rw [← hc]; exact h), hf.append (fun x hx => ?_), by simp, fun _ => ⟨h3, by omega, rfl⟩, fun h' => absurd h h'⟩
    simp only [List.mem_singleton] at hx
    subst hx
    exact ⟨by simp only; omega, h2⟩
  · exact ⟨ws, wrote_no _ _ _ h, wrote_no _ _ _ (by rw [← hc]; exact h), hf, by omega, fun h' => absurd h' h, fun _ => rfl⟩
theorem Two.set_other {base d1 L1 d2 L2 : Nat} {s1 s2 : DSt} {w : World} (h : Two base d1 L1 d2 L2 s1 s2 w) {m i : Nat} {cs : Array Value} {t : TypeId} (hm : Has m cs t w) (h1 : t ≠ 57) (h2 : t ≠ 5) (h3 : t ≠ 120) (v : Value) :
    Two base d1 L1 d2 L2 s1 s2 (w.setCell ⟨m, i, none⟩ v) := by
  obtain ⟨v1, v2, k1, k2, hn⟩ := h
  have ht : Turn (fun k => k = m) w (w.setCell ⟨m, i, none⟩ v) := Turn.setCell (F := fun k => k = m) (p := ⟨m, i, none⟩) (Turn.refl _ _) (.inl rfl) v
  exact ⟨v1, v2, k1.turn ht (fun k e => by rw [e]; exact k1.apart hm h1 h2 h3), k2.turn ht (fun k e => by rw [e]; exact k2.apart hm h1 h2 h3), hn⟩
theorem below_drewN {B : Nat} {a w : World} (h : Below B a w) (n : Nat) : Below B a (w.drewN n) := ⟨h.os, h.tape, h.output, h.size, h.block⟩
theorem extract_mid (S : List UInt8) (a n : Nat) : (Oct.bs S).extract a (a + n) = Oct.bs ((S.drop a).take n) := Oct.ba_ext (by simp [Oct.bs])
end Go.Proofs.YtjnjcjildiadgaaGreatDoor.Disk
/- The walks of the document's disk (stairwellref15): Held, New, put, Check, Done, Waits. -/
namespace Go.Proofs.YtjnjcjildiadgaaGreatDoor.Disk
open Go Go.RowKit Frame
/-- The document's disk as a value; what waits lies in a row. -/
def RD (s : DSt) (v : Value) : Value := .agg #[.string (Oct.bs s.last), v, .bool s.on, .bool s.armed, .int .i64 s.syncs, .int .i64 s.cut]
def RW (v : Value) (ws : List Wr) (w : World) : Prop := w.ownsRow 0 122 2 v ws.length (rows ws) ∧ (ws.length = 0 → v = .slice none 0 0)
theorem RW.below {v : Value} {ws : List Wr} {w w' : World} (h : RW v ws w) (hb : Below w.heap.size w w') : RW v ws w' := by
  obtain ⟨⟨hlen, hv⟩, hnil⟩ := h
  refine ⟨⟨hlen, ?_⟩, hnil⟩
  rcases hv with hv | ⟨g, cap, cur, rfl, hb', hg, hr⟩
  · exact .inl hv
  · exact .inr ⟨g, cap, cur, rfl, hb', (hb.block g (Has.lt (cs := cur) hg)).trans hg, hr⟩
theorem RW.kept {v : Value} {ws : List Wr} {w w' : World} (h : RW v ws w) (hk : Kept w w') : RW v ws w' := by
  obtain ⟨⟨hlen, hv⟩, hnil⟩ := h
  refine ⟨⟨hlen, ?_⟩, hnil⟩
  rcases hv with hv | ⟨g, cap, cur, rfl, hb', hg, hr⟩
  · exact .inl hv
  · exact .inr ⟨g, cap, cur, rfl, hb', hk g cur _ (by decide) (by decide) (by decide) hg, hr⟩
theorem RW.nil (w : World) : RW (.slice none 0 0) [] w := ⟨⟨rfl, .inl ⟨rfl, rfl⟩⟩, fun _ => rfl⟩
theorem RW.row {v : Value} {ws : List Wr} {w : World} (h : RW v ws w) :
    ∃ A cap, v = .slice A ws.length cap ∧ (0 < ws.length → ∃ g, A = some ⟨g, 0, none⟩ ∧ g < w.heap.size ∧ ∀ i, i < ws.length → w.cell? ⟨g, i * 2, none⟩ = some (.int .i64 ((ws.getD i (0, ByteArray.empty)).1 : Int)) ∧ w.cell? ⟨g, i * 2 + 1, none⟩ = some (.string (ws.getD i (0, ByteArray.empty)).2)) := by
  obtain ⟨⟨hlen, hv⟩, -⟩ := h
  rcases hv with ⟨rfl, hz⟩ | ⟨g, cap, cur, rfl, hb, hg, hc, hm, hs, ht⟩
  · exact ⟨none, 0, by rw [hz], fun h => by omega⟩
  · refine ⟨some ⟨g, 0, none⟩, cap, rfl, fun _ => ⟨g, rfl, Has.lt (cs := cur) hg, fun i hi => ?_⟩⟩
    have hr := rows_at ws i hi
    rw [← ht] at hr
    have hc := fun j => (show w.cell? ⟨g, j, none⟩ = cur[j]? from Has.cell (cs := cur) hg j)
    rw [hc, hc]
    rw [List.getElem?_take_of_lt (by omega), List.getElem?_take_of_lt (by omega)] at hr
    simpa using hr
def heldN (n most : Int) : Int := max 0 (min n most)
theorem Held_calls (n m : Int) (w : World) :
    Calls Tryz.prog 24 #[.int .i64 n, .int .i64 m] w fun e w' => e = .returned (.int .i64 (heldN n m)) ∧ w = w' := by
  by_cases h1 : m < n
  · by_cases h2 : m < 0
    · have HE := Lib.hid (show heldN n m = 0 by unfold heldN; omega)
      go_enter Tryz.func24, Tryz.ntmps24
      go_wp2
      go_ret
      rw [HE.out]
      exact ⟨rfl, rfl⟩
    · have HE := Lib.hid (show heldN n m = m by unfold heldN; omega)
      go_enter Tryz.func24, Tryz.ntmps24
      go_wp2
      go_ret
      rw [HE.out]
      exact ⟨rfl, rfl⟩
  · by_cases h2 : n < 0
    · have HE := Lib.hid (show heldN n m = 0 by unfold heldN; omega)
      go_enter Tryz.func24, Tryz.ntmps24
      go_wp2
      go_ret
      rw [HE.out]
      exact ⟨rfl, rfl⟩
    · have HE := Lib.hid (show heldN n m = n by unfold heldN; omega)
      go_enter Tryz.func24, Tryz.ntmps24
      go_wp2
      go_ret
      rw [HE.out]
      exact ⟨rfl, rfl⟩
theorem below6 {B b : Nat} {a w : World} (h : Below B a w) (hb : B ≤ b) (v0 v1 v2 v3 v4 v5 : Value) :
    Below B a ((((((w.setCell ⟨b, 0, none⟩ v0).setCell ⟨b, 1, none⟩ v1).setCell ⟨b, 2, none⟩ v2).setCell ⟨b, 3, none⟩ v3).setCell ⟨b, 4, none⟩ v4).setCell ⟨b, 5, none⟩ v5) :=
  (((((h.setCell (p := ⟨b, 0, none⟩) hb v0).setCell (p := ⟨b, 1, none⟩) hb v1).setCell (p := ⟨b, 2, none⟩) hb v2).setCell (p := ⟨b, 3, none⟩) hb v3).setCell (p := ⟨b, 4, none⟩) hb v4).setCell (p := ⟨b, 5, none⟩) hb v5
set_option maxHeartbeats 1000000 in
theorem rNew_calls (n : Nat) (hn : n ≤ 4096) (w : World) :
    Calls Tryz.prog 7 #[.int .i64 n] w fun e w' => e = .returned (RD (fresh n) (.slice none 0 0)) ∧ Below w.heap.size w w' := by
  have HE := Lib.hid (show heldN n 4096 = n by unfold heldN; omega)
  go_enter Tryz.func7, Tryz.ntmps7
  go_wp2_with fail
  refine (Held_calls _ _ _).mono ?_
  rintro e w1 ⟨rfl, rfl⟩
  rw [HE.out]
  have ec : ((64 * n : Nat) : Int) = 64 * (n : Int) := by omega
  have HC := Lib.hid (Noughts_calls (64 * n) (by omega) (w.alloc (.cells #[.string { data := #[] }, .slice none 0 0, .bool false, .bool false, .int .i64 0, .int .i64 0] 30)))
  rw [ec] at HC
  clear ec
  go_wp2_with fail
  refine HC.out.mono ?_
  rintro e w2 ⟨rfl, b2⟩
  have hz : w.heap.size < w2.heap.size := by have := b2.size; simp at this; omega
  have hn := (Has.new w #[.string { data := #[] }, .slice none 0 0, .bool false, .bool false, .int .i64 0, .int .i64 0] 30).below b2
  have HN := Lib.hid hn
  have c0 := hn.cell 0
  have c1 := hn.cell 1
  have c2 := hn.cell 2
  have c3 := hn.cell 3
  have c4 := hn.cell 4
  have c5 := hn.cell 5
  have f := hn.frozen
  have B := Lib.hid (after_alloc b2)
  clear b2 hn
  go_wp2_with fail
  refine bodyPost_ret (v := RD (fresh n) (.slice none 0 0)) (by simp [results, Tryz.results7, go_sem, c0, c1, c2, c3, c4, c5, RD, fresh]) rfl ⟨rfl, ?_⟩
  exact below6 B.out (Nat.le_refl _) _ _ _ _ _ _
theorem put_bytes (s : List UInt8) (k : Nat) (t : ByteArray) : ((Oct.bs s).extract 0 (64 * k) ++ t) ++ (Oct.bs s).extract (64 * k + t.size) (Oct.bs s).size = Oct.bs (put s k t.data.toList) := by
  apply Oct.ba_ext
  simp only [ByteArray.data_append, Array.toList_append, put, Oct.bs_toList]
  have e1 : ((Oct.bs s).extract 0 (64 * k)).data.toList = s.take (64 * k) := by simp [Oct.bs]
  have e2 : ((Oct.bs s).extract (64 * k + t.size) (Oct.bs s).size).data.toList = s.drop (64 * k + t.data.toList.length) := by
    rw [Oct.bs_size]
    simp [Oct.bs]
    exact List.take_of_length_le (by simp)
  rw [e1, e2, List.append_assoc]
set_option maxHeartbeats 1000000 in
theorem put_calls (s : List UInt8) (k : Nat) (t : ByteArray) (h : 64 * k + t.size ≤ s.length) (hl : s.length ≤ 262144) (w : World) :
    Calls Tryz.prog 78 #[.string (Oct.bs s), .int .i64 (k : Int), .string t] w fun e w' => e = .returned (.string (Oct.bs (put s k t.data.toList))) ∧ ∃ m, w' = w.drewN m := by
  have HE := Lib.hid (put_bytes s k t)
  have hz : (Oct.bs s).size = s.length := Oct.bs_size s
  have HZ := Lib.hid hz
  have hz1 : (Oct.bs s).size ≤ 262144 := by omega
  have hz2 : 64 * k + t.size ≤ (Oct.bs s).size := by omega
  clear hz
  generalize Oct.bs s = S at *
  have e1 : IntKind.i64.wrap (64 * (k : Int)) = 64 * (k : Int) := IntWalk.i64_in _ (by omega)
  have e2 : IntKind.i64.wrap (64 * (k : Int) + (t.size : Int)) = 64 * (k : Int) + (t.size : Int) := IntWalk.i64_in _ (by omega)
  have g1 : (0 : Int) ≤ 64 * (k : Int) := by omega
  have g2 : 64 * (k : Int) ≤ (S.size : Int) := by omega
  have g3 : (0 : Int) ≤ 64 * (k : Int) + (t.size : Int) := by omega
  have g4 : 64 * (k : Int) + (t.size : Int) ≤ (S.size : Int) := by omega
  have g5 : (64 * (k : Int)).toNat = 64 * k := by omega
  have g6 : (64 * (k : Int) + (t.size : Int)).toNat = 64 * k + t.size := by omega
  have hx1 : (S.extract 0 (64 * k)).size + t.size ≤ 9223372036854775807 := by simp; omega
  have hx2 : (S.extract 0 (64 * k) ++ t).size + (S.extract (64 * k + t.size) S.size).size ≤ 9223372036854775807 := by simp; omega
  go_enter Tryz.func78, Tryz.ntmps78
  go_wp2_with fail
  go_quiet (fail)
  go_wp2_with fail
  go_ret
  exact ⟨congrArg (fun x => Ending.returned (.string x)) HE.out, _, rfl⟩
end Go.Proofs.YtjnjcjildiadgaaGreatDoor.Disk
/- The walks of the document's disk: Check, Waits, Done, Read. -/
namespace Go.Proofs.YtjnjcjildiadgaaGreatDoor.Disk
open Go Go.RowKit Frame
/-- The six cells of a disk of the document's in a block. -/
def RCells (s : DSt) (v : Value) : Array Value := #[.string (Oct.bs s.last), v, .bool s.on, .bool s.armed, .int .i64 s.syncs, .int .i64 s.cut]
def RHas (b : Nat) (s : DSt) (v : Value) (w : World) : Prop := Has b (RCells s v) 30 w
section
variable {b : Nat} {s : DSt} {v : Value} {w : World}
theorem RHas.c0 (h : RHas b s v w) : w.cell? ⟨b, 0, none⟩ = some (.string (Oct.bs s.last)) := Has.cell h 0
theorem RHas.c1 (h : RHas b s v w) : w.cell? ⟨b, 1, none⟩ = some v := Has.cell h 1
theorem RHas.c2 (h : RHas b s v w) : w.cell? ⟨b, 2, none⟩ = some (.bool s.on) := Has.cell h 2
theorem RHas.c3 (h : RHas b s v w) : w.cell? ⟨b, 3, none⟩ = some (.bool s.armed) := Has.cell h 3
theorem RHas.c4 (h : RHas b s v w) : w.cell? ⟨b, 4, none⟩ = some (.int .i64 s.syncs) := Has.cell h 4
theorem RHas.c5 (h : RHas b s v w) : w.cell? ⟨b, 5, none⟩ = some (.int .i64 s.cut) := Has.cell h 5
end
theorem RHas.new (w : World) (s : DSt) (v : Value) : RHas w.heap.size s v (w.alloc (.cells (RCells s v) 30)) := Has.new _ _ _
set_option maxHeartbeats 1000000 in
theorem Check_calls (s : DSt) (v : Value) (k : Int) (hl : s.last.length ≤ 262144) (w : World) :
    Calls Tryz.prog 92 #[RD s v, .int .i64 k] w fun e w' => e = .returned (.int .i64 (chk s k)) ∧ Below w.heap.size w w' := by
  have hz : (Oct.bs s.last).size = s.last.length := Oct.bs_size _
  have HB := Lib.hid ((Below.refl w.heap.size w).alloc (Nat.le_refl _) (.cells #[.string (Oct.bs s.last), v, .bool s.on, .bool s.armed, .int .i64 s.syncs, .int .i64 s.cut] 30))
  unfold RD
  rcases (Bool.eq_false_or_eq_true s.on).symm with ho | ho
  · have HE := Lib.hid (show chk s k = 16 by unfold chk; rw [if_pos ho])
    rw [ho] at HB ⊢
    clear ho
    go_enter Tryz.func92, Tryz.ntmps92
    go_wp2_with fail
    go_ret
    rw [HE.out]
    exact ⟨rfl, HB.out⟩
  · by_cases h1 : k < 0
    · have HE := Lib.hid (show chk s k = 7 by unfold chk; rw [if_neg (by simp [ho]), if_pos (Or.inl h1)])
      rw [ho] at HB ⊢
      clear ho
      go_enter Tryz.func92, Tryz.ntmps92
      go_wp2_with fail
      go_ret
      rw [HE.out]
      exact ⟨rfl, HB.out⟩
    · by_cases h2 : (s.last.length : Int) / 64 ≤ k
      · have HE := Lib.hid (show chk s k = 7 by unfold chk; rw [if_neg (by simp [ho]), if_pos (Or.inr h2)])
        rw [ho] at HB ⊢
        clear ho
        go_enter Tryz.func92, Tryz.ntmps92
        go_wp2_with fail
        go_ret
        rw [HE.out]
        exact ⟨rfl, HB.out⟩
      · have HE := Lib.hid (show chk s k = 0 by unfold chk; rw [if_neg (by simp [ho]), if_neg (by omega)])
        rw [ho] at HB ⊢
        clear ho
        go_enter Tryz.func92, Tryz.ntmps92
        go_wp2_with fail
        go_ret
        rw [HE.out]
        exact ⟨rfl, HB.out⟩
set_option maxRecDepth 100000 in
set_option maxHeartbeats 1000000 in
theorem rWaits_calls (n : Nat) (s : DSt) (v : Value) (hf : Fits n s.wait) (hn : s.wait.length ≤ 100000) (w : World) (hr : RW v s.wait w) :
    Calls Tryz.prog 93 #[RD s v] w fun e w' => e = .returned (.int .i64 (total s.wait)) ∧ Below w.heap.size w w' := by
  have HF := Lib.hid hf
  obtain ⟨A, cap, rfl, hrow⟩ := hr.row
  have HR := Lib.hid hrow
  clear hrow hf hr
  have hT : total s.wait ≤ 6400000 := by have := total_le n s.wait HF.out; omega
  have HB := Lib.hid ((Below.refl w.heap.size w).alloc (Nat.le_refl _) (.cells #[.string (Oct.bs s.last), .slice A s.wait.length cap, .bool s.on, .bool s.armed, .int .i64 s.syncs, .int .i64 s.cut] 30))
  unfold RD
  generalize s.wait = ws at *
  go_enter Tryz.func93, Tryz.ntmps93
  go_wp2_with fail
  go_loopw [3, 9] (fun t i wr => ∃ k : Nat, k ≤ ws.length ∧ i = .int .i64 k ∧ t = .int .i64 ((total (ws.take k) : Nat) : Int) ∧ Hid (Below w.heap.size w wr)) (fun _ i _ => ws.length - (intOf i).toNat)
  case atStart => exact ⟨0, by omega, rfl, rfl, HB⟩
  case round =>
    obtain ⟨k, hk, rfl, rfl, hB⟩ := hrel
    by_cases hlt : k < ws.length
    · obtain ⟨g, rfl, hg, hi⟩ := HR.out (by omega)
      obtain ⟨c0, c1'⟩ := hi k hlt
      have hc := fun o => hB.out.cell (p := ⟨g, o, none⟩) hg
      rw [← hc] at c0 c1'
      clear hi hc
      have hkT : total (ws.take (k + 1)) ≤ 6400000 := by
        have h1 := total_append (ws.take (k + 1)) (ws.drop (k + 1))
        rw [List.take_append_drop] at h1
        omega
      have hT2 := total_take ws k hlt
      rw [hT2] at hkT
      have HT := Lib.hid hT2
      clear hT2
      generalize ws.getD k (0, ByteArray.empty) = x at *
      generalize total (ws.take k) = T at *
      go_wp2_with fail
      exact ⟨⟨k + 1, by omega, by go_num, by rw [HT.out]; go_num, Lib.hid (hB.out.alloc hB.out.size _)⟩, by simp [intOf]; omega⟩
    · obtain rfl : k = ws.length := by omega
      rw [List.take_length]
      go_wp2_with fail
      go_ret
      exact ⟨rfl, hB.out⟩
theorem heldN_upto (c : Int) (n : Nat) : heldN c (n : Int) = ((upto c n : Nat) : Int) := by unfold heldN upto; omega
set_option maxRecDepth 100000 in
set_option maxHeartbeats 1000000 in
theorem Done_calls (n : Nat) (s : DSt) (v : Value) (cut : Int) (hc : -9223372036854775808 ≤ cut ∧ cut ≤ 9223372036854775807) (hf : Fits n s.wait) (hn : s.wait.length ≤ 100000) (hl : s.last.length = 64 * n) (hn' : n ≤ 4096) (w : World) (hr : RW v s.wait w) :
    Calls Tryz.prog 53 #[RD s v, .int .i64 cut] w fun e w' => e = .returned (.string (Oct.bs (done s.last s.wait cut))) ∧ Below w.heap.size w w' := by
  have HF := Lib.hid hf
  obtain ⟨A, cap, rfl, hrow⟩ := hr.row
  have HR := Lib.hid hrow
  have HL := Lib.hid hl
  clear hrow hf hr
  have HB := Lib.hid ((Below.refl w.heap.size w).alloc (Nat.le_refl _) (.cells #[.string (Oct.bs s.last), .slice A s.wait.length cap, .bool s.on, .bool s.armed, .int .i64 s.syncs, .int .i64 s.cut] 30))
  unfold RD
  generalize s.wait = ws at *
  generalize s.last = l0 at *
  clear hl
  go_enter Tryz.func53, Tryz.ntmps53
  go_wp2_with fail
  go_loopw [1, 5, 14] (fun c t i wr => ∃ k : Nat, k ≤ ws.length ∧ i = .int .i64 k ∧ c = .int .i64 (left (ws.take k) cut) ∧ t = .string (Oct.bs (done l0 (ws.take k) cut)) ∧ Hid (Below w.heap.size w wr)) (fun _ _ i _ => ws.length - (intOf i).toNat)
  case atStart => exact ⟨0, by omega, rfl, rfl, rfl, HB⟩
  case round =>
    obtain ⟨k, hk, rfl, rfl, rfl, hB⟩ := hrel
    by_cases hlt : k < ws.length
    · obtain ⟨g, rfl, hg, hi⟩ := HR.out (by omega)
      obtain ⟨c0, c1'⟩ := hi k hlt
      have hcc := fun o => hB.out.cell (p := ⟨g, o, none⟩) hg
      rw [← hcc] at c0 c1'
      clear hi hcc
      have HS := Lib.hid (done_step l0 ws k hlt cut)
      have hfx := HF.out _ (show ws.getD k (0, ByteArray.empty) ∈ ws by simp [List.getD_eq_getElem?_getD, hlt])
      have hll := left_le (ws.take k) cut
      have hdl := done_length n (ws.take k) l0 cut HL.out (fun x hx => HF.out x (List.mem_of_mem_take hx))
      have HDL := Lib.hid hdl
      clear hdl
      generalize ws.getD k (0, ByteArray.empty) = x at *
      obtain ⟨b, t⟩ := x
      simp only at hfx c0 c1'
      generalize left (ws.take k) cut = c at *
      generalize done l0 (ws.take k) cut = l at *
      have hu := upto_le c t.size
      go_wp2_with fail
      refine (Held_calls _ _ _).mono ?_
      rintro e w1 ⟨rfl, rfl⟩
      rw [heldN_upto]
      have hcu : ((upto c t.size : Nat) : Int) = max 0 (min c t.size) := by unfold upto; omega
      have hcr : -9223372036854775808 ≤ c - ((upto c t.size : Nat) : Int) ∧ c - ((upto c t.size : Nat) : Int) ≤ 9223372036854775807 := by omega
      clear hcu
      generalize upto c t.size = m at *
      have hn0 : (0 : Int) ≤ (m : Int) := by omega
      have hn1 : (m : Int) ≤ (t.size : Int) := by omega
      have HM := Lib.hid (show 64 * b + (t.extract 0 m).size ≤ l.length by have := HDL.out; simp; omega)
      have HL2 := Lib.hid (show l.length ≤ 262144 by have := HDL.out; omega)
      have HX := Lib.hid (extract_list t m)
      go_wp2_with fail
      go_quiet ((go_at_call 78; exact Calls.quiet_of (put_calls l b (t.extract 0 m) HM.out HL2.out _)))
      go_wp2_with fail
      rw [HX.out]
      exact ⟨⟨k + 1, by omega, by go_num, by rw [HS.out.2], by rw [HS.out.1], Lib.hid (below_drewN (hB.out.alloc hB.out.size _) _)⟩, by simp [intOf]; omega⟩
    · obtain rfl : k = ws.length := by omega
      rw [List.take_length]
      go_wp2_with fail
      go_ret
      exact ⟨rfl, hB.out⟩
end Go.Proofs.YtjnjcjildiadgaaGreatDoor.Disk
/- The walks of the document's disk: Put, Down, Sync, Arm, Up. -/
namespace Go.Proofs.YtjnjcjildiadgaaGreatDoor.Disk
open Go Go.RowKit Frame
def RPost (s' : DSt) (w : World) (e : Ending) (w' : World) : Prop := ∃ v', e = .returned (RD s' v') ∧ RW v' s'.wait w' ∧ Below w.heap.size w w'
def RPost2 (s' : DSt) (r : Int) (w : World) (e : Ending) (w' : World) : Prop := ∃ v', e = .returned (.tuple #[RD s' v', .int .i64 r]) ∧ RW v' s'.wait w' ∧ Below w.heap.size w w'
theorem infoRW : (Tryz.prog.info? 122).map (fun i => (i.zero, i.size, i.bytes)) = some (some (.agg #[.int .i64 0, .string ⟨#[]⟩]), 2, 24) := by kernel_rfl
def rdown (s : DSt) (c : Int) : DSt := if s.on then ⟨done s.last s.wait c, [], false, false, 0, 0⟩ else s
def rup (s : DSt) : DSt := if s.on then s else ⟨s.last, [], true, false, 0, 0⟩
theorem below2 (w : World) (o1 o2 : Obj) : Below w.heap.size w ((w.alloc o1).alloc o2) := ((Below.refl _ _).alloc (Nat.le_refl _) _).alloc (by simp) _
def zeroR : Array Value := #[.string { data := #[] }, .slice none 0 0, .bool false, .bool false, .int .i64 0, .int .i64 0]
set_option maxHeartbeats 1000000 in
theorem rUp_calls (s : DSt) (v : Value) (w : World) (hr : RW v s.wait w) :
    Calls Tryz.prog 34 #[RD s v] w (RPost (rup s) w) := by
  obtain ⟨A, cap, rfl, -⟩ := hr.row
  have HR := Lib.hid hr
  clear hr
  unfold RD
  rcases (Bool.eq_false_or_eq_true s.on).symm with ho | ho
  · have HE := Lib.hid (show rup s = ⟨s.last, [], true, false, 0, 0⟩ by simp [rup, ho])
    rw [ho]
    clear ho
    go_enter Tryz.func34, Tryz.ntmps34
    go_wp2_with fail
    refine bodyPost_ret (v := RD ⟨s.last, [], true, false, 0, 0⟩ (.slice none 0 0)) (by simp [results, Tryz.results34, go_sem, RD]) rfl ?_
    rw [HE.out]
    exact ⟨_, rfl, RW.nil _, below2 _ _ _⟩
  · have HE := Lib.hid (show rup s = s by simp [rup, ho])
    have HO := Lib.hid ho
    rw [ho]
    clear ho
    go_enter Tryz.func34, Tryz.ntmps34
    go_wp2_with fail
    refine bodyPost_ret (v := RD s (.slice A s.wait.length cap)) (by simp [results, Tryz.results34, go_sem, RD, HO.out]) rfl ?_
    rw [HE.out]
    exact ⟨_, rfl, HR.out.below (below2 _ _ _), below2 _ _ _⟩
set_option maxHeartbeats 1000000 in
theorem rArm_calls (s : DSt) (v : Value) (n c : Int) (w : World) (hr : RW v s.wait w) :
    Calls Tryz.prog 31 #[RD s v, .int .i64 n, .int .i64 c] w (RPost (armed s n c) w) := by
  obtain ⟨A, cap, rfl, -⟩ := hr.row
  have HR := Lib.hid hr
  clear hr
  unfold RD
  rcases (Bool.eq_false_or_eq_true s.on).symm with ho | ho
  · have HE := Lib.hid (show armed s n c = s by simp [armed, ho])
    have HO := Lib.hid ho
    rw [ho]
    clear ho
    go_enter Tryz.func31, Tryz.ntmps31
    go_wp2_with fail
    refine bodyPost_ret (v := RD s (.slice A s.wait.length cap)) (by simp [results, Tryz.results31, go_sem, RD, HO.out]) rfl ?_
    rw [HE.out]
    exact ⟨_, rfl, HR.out.below (below2 _ _ _), below2 _ _ _⟩
  · obtain ⟨N, hN⟩ : ∃ N : Int, max n 0 = N := ⟨_, rfl⟩
    obtain ⟨C, hC⟩ : ∃ C : Int, max c 0 = C := ⟨_, rfl⟩
    have HE := Lib.hid (show armed s n c = ⟨s.last, s.wait, s.on, true, N, C⟩ by
      have h1 : max 0 n = N := by omega
      have h2 : max 0 c = C := by omega
      simp [armed, ho, h1, h2])
    have HO := Lib.hid ho
    rw [ho]
    clear ho
    go_enter Tryz.func31, Tryz.ntmps31
    go_wp2_with fail
    refine bodyPost_ret (v := RD ⟨s.last, s.wait, s.on, true, N, C⟩ (.slice A s.wait.length cap)) (by simp [results, Tryz.results31, go_sem, RD, HO.out]) rfl ?_
    rw [HE.out]
    exact ⟨_, rfl, HR.out.below (below2 _ _ _), below2 _ _ _⟩
set_option maxHeartbeats 1000000 in
theorem rDown_calls (n : Nat) (s : DSt) (v : Value) (c : Int) (hc : -9223372036854775808 ≤ c ∧ c ≤ 9223372036854775807) (hs : Good n s) (w : World) (hr : RW v s.wait w) :
    Calls Tryz.prog 35 #[RD s v, .int .i64 c] w (RPost (rdown s c) w) := by
  obtain ⟨A, cap, rfl, -⟩ := hr.row
  have HR := Lib.hid hr
  clear hr
  rcases (Bool.eq_false_or_eq_true s.on).symm with ho | ho
  · have HE := Lib.hid (show rdown s c = s by simp [rdown, ho])
    have HO := Lib.hid ho
    unfold RD
    rw [ho]
    clear ho
    go_enter Tryz.func35, Tryz.ntmps35
    go_wp2_with fail
    refine bodyPost_ret (v := RD s (.slice A s.wait.length cap)) (by simp [results, Tryz.results35, go_sem, RD, HO.out]) rfl ?_
    rw [HE.out]
    exact ⟨_, rfl, HR.out.below (below2 _ _ _), below2 _ _ _⟩
  · have HE := Lib.hid (show rdown s c = ⟨done s.last s.wait c, [], false, false, 0, 0⟩ by simp [rdown, ho])
    have HD := Lib.hid (fun W h => Done_calls n s (.slice A s.wait.length cap) c hc hs.fits hs.many hs.len hs.hn W h)
    have HB := Lib.hid (below2 w (.cells (RCells s (.slice A s.wait.length cap)) 30) (.cells zeroR 30))
    have HR2 := Lib.hid (HR.out.below HB.out)
    have hn2 : Has (w.heap.size + 1) zeroR 30 ((w.alloc (.cells (RCells s (.slice A s.wait.length cap)) 30)).alloc (.cells zeroR 30)) := by
      have := Has.new (w.alloc (.cells (RCells s (.slice A s.wait.length cap)) 30)) zeroR 30
      simpa using this
    have HN := Lib.hid hn2
    clear hn2
    unfold RD RCells zeroR at *
    rw [ho] at HD HB HR2 HN ⊢
    clear ho
    go_enter Tryz.func35, Tryz.ntmps35
    go_wp2_with fail
    refine (HD.out _ HR2.out).mono ?_
    rintro e w2 ⟨rfl, b2⟩
    have hn := HN.out.below b2
    have f := hn.frozen
    have c0 := hn.cell 0
    have c1 := hn.cell 1
    have c2 := hn.cell 2
    have c3 := hn.cell 3
    have c4 := hn.cell 4
    have c5 := hn.cell 5
    have hz := hn.lt
    have B := Lib.hid (bthen HB.out b2)
    clear b2 hn
    go_wp2_with fail
    refine bodyPost_ret (v := RD ⟨done s.last s.wait c, [], false, false, 0, 0⟩ (.slice none 0 0)) (by simp [results, Tryz.results35, go_sem, RD, c0, c1, c2, c3, c4, c5]) rfl ?_
    rw [HE.out]
    exact ⟨_, rfl, RW.nil _, below6 B.out (by omega) _ _ _ _ _ _⟩
end Go.Proofs.YtjnjcjildiadgaaGreatDoor.Disk
/- The walks of the document's disk: Sync. -/
namespace Go.Proofs.YtjnjcjildiadgaaGreatDoor.Disk
open Go Go.RowKit Frame
theorem RW.apart {v : Value} {ws : List Wr} {w : World} (h : RW v ws w) {b : Nat} {cs : Array Value} {t : TypeId} (hb : Has b cs t w) (hne : t ≠ 122) : v.ownBlock ≠ some b := by
  rcases h.1.2 with ⟨rfl, _⟩ | ⟨g, cap, cur, rfl, _, hg, _⟩
  · simp [Value.ownBlock]
  · intro e
    simp [Value.ownBlock] at e
    subst e
    exact hne (has_type hb hg)
theorem RW.set6 {v : Value} {ws : List Wr} {w : World} {b : Nat} (h : RW v ws w) (hb : v.ownBlock ≠ some b) (v0 v1 v2 v3 v4 v5 : Value) :
    RW v ws ((((((w.setCell ⟨b, 0, none⟩ v0).setCell ⟨b, 1, none⟩ v1).setCell ⟨b, 2, none⟩ v2).setCell ⟨b, 3, none⟩ v3).setCell ⟨b, 4, none⟩ v4).setCell ⟨b, 5, none⟩ v5) := by
  refine ⟨?_, h.2⟩
  exact ownsRow_setCell_other (ownsRow_setCell_other (ownsRow_setCell_other (ownsRow_setCell_other (ownsRow_setCell_other (ownsRow_setCell_other h.1 (a := ⟨b, 0, none⟩) hb v0) (a := ⟨b, 1, none⟩) hb v1) (a := ⟨b, 2, none⟩) hb v2) (a := ⟨b, 3, none⟩) hb v3) (a := ⟨b, 4, none⟩) hb v4) (a := ⟨b, 5, none⟩) hb v5
def rsync (s : DSt) : DSt × Int :=
  if s.on then (if s.armed && s.syncs == 0 then (rdown s s.cut, 16) else ({ s with last := all s.last s.wait, wait := [], syncs := if s.armed then s.syncs - 1 else s.syncs }, 0)) else (s, 16)
theorem rsync_off (s : DSt) (h : s.on = false) : rsync s = (s, 16) := by simp [rsync, h]
theorem rsync_gone (s : DSt) (h : s.on = true) (ha : s.armed = true) (hz : s.syncs = 0) : rsync s = (rdown s s.cut, 16) := by simp [rsync, h, ha, hz]
theorem rsync_armed (s : DSt) (h : s.on = true) (ha : s.armed = true) (hz : s.syncs ≠ 0) : rsync s = (⟨all s.last s.wait, [], s.on, s.armed, s.syncs - 1, s.cut⟩, 0) := by simp [rsync, h, ha, hz]
theorem rsync_not (s : DSt) (h : s.on = true) (ha : s.armed = false) : rsync s = (⟨all s.last s.wait, [], s.on, s.armed, s.syncs, s.cut⟩, 0) := by simp [rsync, h, ha]
theorem zero_has (w : World) (cs : Array Value) : Has (w.heap.size + 1) zeroR 30 ((w.alloc (.cells cs 30)).alloc (.cells zeroR 30)) := by
  have := Has.new (w.alloc (.cells cs 30)) zeroR 30
  simpa using this
theorem first_has (w : World) (cs : Array Value) (o : Obj) : Has w.heap.size cs 30 ((w.alloc (.cells cs 30)).alloc o) := (Has.new _ _ _).alloc _
set_option maxRecDepth 100000 in
set_option maxHeartbeats 4000000 in
theorem rSync_gone (n : Nat) (last : List UInt8) (ws : List Wr) (ct : Int) (v : Value) (hs : Good n ⟨last, ws, true, true, 0, ct⟩) (w : World) (hr : RW v ws w) :
    Calls Tryz.prog 74 #[RD ⟨last, ws, true, true, 0, ct⟩ v] w (RPost2 (rdown ⟨last, ws, true, true, 0, ct⟩ ct) 16 w) := by
  obtain ⟨A, cap, rfl, -⟩ := hr.row
  have hcr : -9223372036854775808 ≤ ct ∧ ct ≤ 9223372036854775807 := by have h := hs.cut; simp only at h; omega
  have HR := Lib.hid hr
  have HG := Lib.hid hs
  clear hr hs
  have HD := Lib.hid (fun W h => rDown_calls n ⟨last, ws, true, true, 0, ct⟩ (.slice A ws.length cap) ct hcr HG.out W h)
  have HB := Lib.hid (below2 w (.cells (RCells ⟨last, ws, true, true, 0, ct⟩ (.slice A ws.length cap)) 30) (.cells zeroR 30))
  have HN := Lib.hid (zero_has w (RCells ⟨last, ws, true, true, 0, ct⟩ (.slice A ws.length cap)))
  have HR2 := Lib.hid (HR.out.below HB.out)
  unfold RD at HD ⊢
  unfold RCells zeroR at HB HN HR2
  simp only at HD HB HN HR2 ⊢
  go_enter Tryz.func74, Tryz.ntmps74
  go_wp2_with fail
  refine (HD.out _ HR2.out).mono ?_
  rintro e w2 ⟨v2, rfl, r2, b2⟩
  obtain ⟨A2, cap2, rfl, -⟩ := r2.row
  have hn := HN.out.below b2
  have f := hn.frozen
  have c0 := hn.cell 0
  have c1 := hn.cell 1
  have c2 := hn.cell 2
  have c3 := hn.cell 3
  have c4 := hn.cell 4
  have c5 := hn.cell 5
  have hz := hn.lt
  have B := Lib.hid (bthen HB.out b2)
  have R2 := Lib.hid r2
  have hne := Lib.hid (r2.apart hn (by decide))
  clear b2 hn r2
  unfold RD
  generalize rdown ⟨last, ws, true, true, 0, ct⟩ ct = s2 at *
  go_wp2_with fail
  refine bodyPost_ret (v := .tuple #[RD s2 (.slice A2 s2.wait.length cap2), .int .i64 16]) (by simp [results, Tryz.results74, go_sem, RD, c0, c1, c2, c3, c4, c5]) rfl ?_
  refine ⟨_, rfl, ?_, below6 B.out (by omega) _ _ _ _ _ _⟩
  exact R2.out.set6 hne.out _ _ _ _ _ _
set_option maxRecDepth 100000 in
set_option maxHeartbeats 4000000 in
theorem rSync_on (n : Nat) (last : List UInt8) (ws : List Wr) (ar : Bool) (sy ct : Int) (v : Value) (hs : Good n ⟨last, ws, true, ar, sy, ct⟩) (hy : ar = true → sy ≠ 0) (sy' : Int) (hm : sy' = if ar then sy - 1 else sy) (w : World) (hr : RW v ws w) :
    Calls Tryz.prog 74 #[RD ⟨last, ws, true, ar, sy, ct⟩ v] w (RPost2 ⟨all last ws, [], true, ar, sy', ct⟩ 0 w) := by
  obtain ⟨A, cap, rfl, -⟩ := hr.row
  have hsy : 0 ≤ sy ∧ sy ≤ 9223372036854775807 := hs.syncs
  have htl := total_le n ws hs.fits
  have hmn : ws.length ≤ 100000 := hs.many
  have HR := Lib.hid hr
  have HG := Lib.hid hs
  clear hr hs
  have HX := Lib.hid (show Oct.bs (done last ws (total ws)) = Oct.bs (all last ws) by rw [done_all _ _ _ (Int.le_refl _)])
  cases ar with
  | true =>
    have hz : (sy == 0) = false := by have := hy rfl; simpa using this
    have hz2 : sy ≠ 0 := hy rfl
    obtain rfl : sy' = sy - 1 := by simpa using hm
    clear hm
    have HD := Lib.hid (fun W h => Done_calls n ⟨last, ws, true, true, sy - 1, ct⟩ (.slice A ws.length cap) (total ws) ⟨by omega, by omega⟩ HG.out.fits hmn HG.out.len HG.out.hn W h)
    have HW := Lib.hid (fun W h => rWaits_calls n ⟨last, ws, true, true, sy - 1, ct⟩ (.slice A ws.length cap) HG.out.fits hmn W h)
    have HB := Lib.hid (below2 w (.cells (RCells ⟨last, ws, true, true, sy - 1, ct⟩ (.slice A ws.length cap)) 30) (.cells zeroR 30))
    have HN := Lib.hid (zero_has w (RCells ⟨last, ws, true, true, sy - 1, ct⟩ (.slice A ws.length cap)))
    have HN1 := Lib.hid (first_has w (RCells ⟨last, ws, true, true, sy - 1, ct⟩ (.slice A ws.length cap)) (.cells zeroR 30))
    have HR2 := Lib.hid (HR.out.below HB.out)
    clear hy htl hmn
    unfold RD at HD HW ⊢
    unfold RCells zeroR at HB HN HN1 HR2
    simp only at HD HW HB HN HN1 HR2 ⊢
    go_enter Tryz.func74, Tryz.ntmps74
    go_wp2_with fail
    go_region_with
      (first
        | (go_at_call 93; refine (HW.out _ (HR2.out.below (Below.drew (Below.refl _ _)))).mono ?_; rintro e w2 ⟨rfl, b2⟩;
           have b2 := (Below.drew (Below.refl _ _)).trans b2; have h2 := HN1.out.below b2; have c0 := h2.cell 0; have c1 := h2.cell 1; have c2 := h2.cell 2; have c3 := h2.cell 3; have c4 := h2.cell 4; have c5 := h2.cell 5; have f2 := h2.frozen; clear h2)
        | (go_at_call 53; refine (HD.out _ ((HR2.out.below b2).below (Below.refl _ _))).mono ?_; rintro e w3 ⟨rfl, b3⟩;
           have h3 := (HN1.out.below b2).below b3; have k0 := h3.cell 0; have k1 := h3.cell 1; have k2 := h3.cell 2; have k3 := h3.cell 3; have k4 := h3.cell 4; have k5 := h3.cell 5; have f3 := h3.frozen; clear h3; have h4 := (HN.out.below b2).below b3; have z0 := h4.cell 0; have z1 := h4.cell 1; have z2 := h4.cell 2; have z3 := h4.cell 3; have z4 := h4.cell 4; have z5 := h4.cell 5; have f4 := h4.frozen; have hz4 := h4.lt; clear h4; have B3 := Lib.hid (bthen (bthen HB.out b2) b3); clear b3))
    all_goals
      rw [HX.out]
      go_wp2_with fail
      refine bodyPost_ret (v := .tuple #[RD ⟨all last ws, [], true, true, sy - 1, ct⟩ (.slice none 0 0), .int .i64 0]) (by simp [results, Tryz.results74, go_sem, RD, z0, z1, z2, z3, z4, z5]) rfl ?_
      exact ⟨_, rfl, RW.nil _, below6 ((B3.out.setCell (p := ⟨w.heap.size, 0, none⟩) (Nat.le_refl _) _).setCell (p := ⟨w.heap.size, 1, none⟩) (Nat.le_refl _) _) (Nat.le_succ _) _ _ _ _ _ _⟩
  | false =>
    obtain rfl : sy' = sy := by simpa using hm
    clear hm
    have HD := Lib.hid (fun W h => Done_calls n ⟨last, ws, true, false, sy', ct⟩ (.slice A ws.length cap) (total ws) ⟨by omega, by omega⟩ HG.out.fits hmn HG.out.len HG.out.hn W h)
    have HW := Lib.hid (fun W h => rWaits_calls n ⟨last, ws, true, false, sy', ct⟩ (.slice A ws.length cap) HG.out.fits hmn W h)
    have HB := Lib.hid (below2 w (.cells (RCells ⟨last, ws, true, false, sy', ct⟩ (.slice A ws.length cap)) 30) (.cells zeroR 30))
    have HN := Lib.hid (zero_has w (RCells ⟨last, ws, true, false, sy', ct⟩ (.slice A ws.length cap)))
    have HN1 := Lib.hid (first_has w (RCells ⟨last, ws, true, false, sy', ct⟩ (.slice A ws.length cap)) (.cells zeroR 30))
    have HR2 := Lib.hid (HR.out.below HB.out)
    clear hy htl hmn
    unfold RD at HD HW ⊢
    unfold RCells zeroR at HB HN HN1 HR2
    simp only at HD HW HB HN HN1 HR2 ⊢
    go_enter Tryz.func74, Tryz.ntmps74
    go_wp2_with fail
    go_region_with
      (first
        | (go_at_call 93; refine (HW.out _ (HR2.out.below (Below.drew (Below.refl _ _)))).mono ?_; rintro e w2 ⟨rfl, b2⟩;
           have b2 := (Below.drew (Below.refl _ _)).trans b2; have h2 := HN1.out.below b2; have c0 := h2.cell 0; have c1 := h2.cell 1; have c2 := h2.cell 2; have c3 := h2.cell 3; have c4 := h2.cell 4; have c5 := h2.cell 5; have f2 := h2.frozen; clear h2)
        | (go_at_call 53; refine (HD.out _ ((HR2.out.below b2).below (Below.refl _ _))).mono ?_; rintro e w3 ⟨rfl, b3⟩;
           have h3 := (HN1.out.below b2).below b3; have k0 := h3.cell 0; have k1 := h3.cell 1; have k2 := h3.cell 2; have k3 := h3.cell 3; have k4 := h3.cell 4; have k5 := h3.cell 5; have f3 := h3.frozen; clear h3; have h4 := (HN.out.below b2).below b3; have z0 := h4.cell 0; have z1 := h4.cell 1; have z2 := h4.cell 2; have z3 := h4.cell 3; have z4 := h4.cell 4; have z5 := h4.cell 5; have f4 := h4.frozen; have hz4 := h4.lt; clear h4; have B3 := Lib.hid (bthen (bthen HB.out b2) b3); clear b3))
    all_goals
      rw [HX.out]
      go_wp2_with fail
      refine bodyPost_ret (v := .tuple #[RD ⟨all last ws, [], true, false, sy', ct⟩ (.slice none 0 0), .int .i64 0]) (by simp [results, Tryz.results74, go_sem, RD, z0, z1, z2, z3, z4, z5]) rfl ?_
      exact ⟨_, rfl, RW.nil _, below6 ((B3.out.setCell (p := ⟨w.heap.size, 0, none⟩) (Nat.le_refl _) _).setCell (p := ⟨w.heap.size, 1, none⟩) (Nat.le_refl _) _) (Nat.le_succ _) _ _ _ _ _ _⟩
set_option maxHeartbeats 1000000 in
theorem rSync_off (s : DSt) (ho : s.on = false) (v : Value) (w : World) (hr : RW v s.wait w) :
    Calls Tryz.prog 74 #[RD s v] w (RPost2 s 16 w) := by
  obtain ⟨A, cap, rfl, -⟩ := hr.row
  have HR := Lib.hid hr
  have HO := Lib.hid ho
  unfold RD
  rw [ho]
  clear ho hr
  go_enter Tryz.func74, Tryz.ntmps74
  go_wp2_with fail
  refine bodyPost_ret (v := .tuple #[RD s (.slice A s.wait.length cap), .int .i64 16]) (by simp [results, Tryz.results74, go_sem, RD, HO.out]) rfl ?_
  exact ⟨_, rfl, HR.out.below (below2 _ _ _), below2 _ _ _⟩
theorem rSync_calls (n : Nat) (s : DSt) (v : Value) (hs : Good n s) (w : World) (hr : RW v s.wait w) :
    Calls Tryz.prog 74 #[RD s v] w (RPost2 (rsync s).1 (rsync s).2 w) := by
  rcases (Bool.eq_false_or_eq_true s.on).symm with ho | ho
  · rw [rsync_off s ho]
    exact rSync_off s ho v w hr
  · obtain ⟨last, ws, on, ar, sy, ct⟩ := s
    simp only at ho
    subst ho
    by_cases h : ar = true ∧ sy = 0
    · obtain ⟨rfl, rfl⟩ := h
      rw [rsync_gone _ rfl rfl rfl]
      exact rSync_gone n last ws ct v hs w hr
    · have e : rsync ⟨last, ws, true, ar, sy, ct⟩ = (⟨all last ws, [], true, ar, if ar then sy - 1 else sy, ct⟩, 0) := by
        cases ar with
        | true =>
          rw [rsync_armed _ rfl rfl (by simp at h; exact h)]
          rfl
        | false => rw [rsync_not _ rfl rfl]; rfl
      rw [e]
      exact rSync_on n last ws ar sy ct v hs (fun ha hz => h ⟨ha, hz⟩) _ rfl w hr
end Go.Proofs.YtjnjcjildiadgaaGreatDoor.Disk
/- The walks of the document's disk: Put. -/
namespace Go.Proofs.YtjnjcjildiadgaaGreatDoor.Disk
open Go Go.RowKit Frame
set_option maxRecDepth 100000 in
set_option maxHeartbeats 2000000 in
theorem rPut_no (s : DSt) (v : Value) (k : Int) (t : ByteArray) (ha : ans s k t ≠ 0) (hl : s.last.length ≤ 262144) (w : World) (hr : RW v s.wait w) :
    Calls Tryz.prog 73 #[RD s v, .int .i64 k, .string t] w (RPost2 s (ans s k t) w) := by
  obtain ⟨A, cap, rfl, -⟩ := hr.row
  have HC := Lib.hid (fun W => Check_calls s (.slice A s.wait.length cap) k hl W)
  have HB := Lib.hid (below2 w (.cells (RCells s (.slice A s.wait.length cap)) 30) (.cells zeroR 30))
  have HN := Lib.hid (zero_has w (RCells s (.slice A s.wait.length cap)))
  have HN1 := Lib.hid (first_has w (RCells s (.slice A s.wait.length cap)) (.cells zeroR 30))
  have HR2 := Lib.hid (hr.below HB.out)
  have hans : ans s k t = if chk s k ≠ 0 then chk s k else if 64 < t.size then 5 else 0 := rfl
  clear hr
  unfold RD at HC ⊢
  unfold RCells zeroR at HB HN HN1 HR2
  generalize chk s k = c at *
  by_cases hc : c = 0
  · subst hc
    have ht : 64 < t.size := by
      rcases Nat.lt_or_ge 64 t.size with h | h
      · exact h
      · rw [if_neg (by simp), if_neg (by omega)] at hans
        exact absurd hans ha
    have HE := Lib.hid (show ans s k t = 5 by rw [hans, if_neg (by simp), if_pos ht])
    clear hans ha
    go_enter Tryz.func73, Tryz.ntmps73
    go_wp2_with fail
    refine (HC.out _).mono ?_
    rintro e w2 ⟨rfl, b2⟩
    have h3 := HN1.out.below b2; have k0 := h3.cell 0; have k1 := h3.cell 1; have k2 := h3.cell 2; have k3 := h3.cell 3; have k4 := h3.cell 4; have k5 := h3.cell 5
    have h4 := HN.out.below b2; have z0 := h4.cell 0; have z1 := h4.cell 1; have z2 := h4.cell 2; have z3 := h4.cell 3; have z4 := h4.cell 4; have z5 := h4.cell 5; have f4 := h4.frozen; have hz4 := h4.lt
    have R2 := Lib.hid (HR2.out.below b2)
    have hne := Lib.hid (R2.out.apart h4 (by decide))
    have B2 := Lib.hid (bthen HB.out b2)
    clear h3 h4 b2
    go_wp2_with fail
    refine bodyPost_ret (v := .tuple #[RD s (.slice A s.wait.length cap), .int .i64 5]) (by simp [results, Tryz.results73, go_sem, RD, z0, z1, z2, z3, z4, z5]) rfl ?_
    rw [HE.out]
    exact ⟨_, rfl, R2.out.set6 hne.out _ _ _ _ _ _, below6 B2.out (Nat.le_succ _) _ _ _ _ _ _⟩
  · have HE := Lib.hid (show ans s k t = c by rw [hans, if_pos hc])
    have hc' : (c != 0) = true := by simpa using hc
    have hc2 : (c == 0) = false := by simpa using hc
    clear hans ha hc
    go_enter Tryz.func73, Tryz.ntmps73
    go_wp2_with fail
    refine (HC.out _).mono ?_
    rintro e w2 ⟨rfl, b2⟩
    have h3 := HN1.out.below b2; have k0 := h3.cell 0; have k1 := h3.cell 1; have k2 := h3.cell 2; have k3 := h3.cell 3; have k4 := h3.cell 4; have k5 := h3.cell 5
    have h4 := HN.out.below b2; have z0 := h4.cell 0; have z1 := h4.cell 1; have z2 := h4.cell 2; have z3 := h4.cell 3; have z4 := h4.cell 4; have z5 := h4.cell 5; have f4 := h4.frozen; have hz4 := h4.lt
    have R2 := Lib.hid (HR2.out.below b2)
    have hne := Lib.hid (R2.out.apart h4 (by decide))
    have B2 := Lib.hid (bthen HB.out b2)
    clear h3 h4 b2
    go_wp2_with fail
    refine bodyPost_ret (v := .tuple #[RD s (.slice A s.wait.length cap), .int .i64 c]) (by simp [results, Tryz.results73, go_sem, RD, z0, z1, z2, z3, z4, z5]) rfl ?_
    rw [HE.out]
    exact ⟨_, rfl, R2.out.set6 hne.out _ _ _ _ _ _, below6 B2.out (Nat.le_succ _) _ _ _ _ _ _⟩
theorem has_grown {b : Nat} {cs : Array Value} {t : TypeId} {w w' : World} {row : Option Nat} (h : Has b cs t w) (hg : w.grownBy w' row) (hne : some b ≠ row) : Has b cs t w' := (hg.block b h.lt hne).trans h
theorem below_grown {B : Nat} {a w w' : World} {row : Option Nat} (h : Below B a w) (hg : w.grownBy w' row) (hB : B ≤ w.heap.size) (hr : ∀ g, row = some g → B ≤ g) : Below B a w' :=
  ⟨hg.os.trans h.os, hg.tape.trans h.tape, hg.output.trans h.output, Nat.le_trans h.size hg.size, fun i hi => (hg.block i (by omega) (fun e => by have := hr i e.symm; omega)).trans (h.block i hi)⟩
theorem RW.of_own {base g cap m : Nat} {ws : List Wr} {xs : List Value} {w : World} (h : w.ownsRow base 122 2 (.slice (some ⟨g, 0, none⟩) m cap) m xs) (hm : m = ws.length) (hx : xs = rows ws) (h0 : 0 < ws.length) : RW (.slice (some ⟨g, 0, none⟩) m cap) ws w := by
  subst hm
  subst hx
  refine ⟨⟨h.1, ?_⟩, fun h' => by omega⟩
  rcases h.2 with ⟨e, _⟩ | ⟨g', cap', cur, e, _, hr⟩
  · cases e
  · exact .inr ⟨g', cap', cur, e, Nat.zero_le _, hr⟩
theorem RW.set1 {v : Value} {ws : List Wr} {w : World} {b i : Nat} (h : RW v ws w) (hb : v.ownBlock ≠ some b) (x : Value) : RW v ws (w.setCell ⟨b, i, none⟩ x) :=
  ⟨ownsRow_setCell_other h.1 (a := ⟨b, i, none⟩) hb x, h.2⟩
theorem rows_one (ws : List Wr) : ∀ u ∈ rows ws, u.oneCell' = true := by
  intro u hu
  simp only [rows, List.mem_flatMap] at hu
  obtain ⟨x, _, hx⟩ := hu
  simp at hx
  rcases hx with rfl | rfl <;> rfl
set_option maxRecDepth 100000 in
set_option maxHeartbeats 2000000 in
theorem rPut_yes (s : DSt) (v : Value) (q : Nat) (t : ByteArray) (hc : chk s q = 0) (ht : t.size ≤ 64) (hl : s.last.length ≤ 262144) (hn : s.wait.length ≤ 100000) (w : World) (hr : RW v s.wait w) :
    Calls Tryz.prog 73 #[RD s v, .int .i64 (q : Int), .string t] w (RPost2 { s with wait := s.wait ++ [(q, t)] } 0 w) := by
  obtain ⟨i0, hi0, hz0, hz1, hz2⟩ := info_parts infoRW
  obtain ⟨last, ws, on, ar, sy, ct⟩ := s
  simp only at hr hl hn ⊢
  obtain ⟨A, cap, rfl, hrow⟩ := hr.row
  have HC := Lib.hid (fun W => Check_calls ⟨last, ws, on, ar, sy, ct⟩ (.slice A ws.length cap) q hl W)
  rw [hc] at HC
  have HB := Lib.hid (below2 w (.cells (RCells ⟨last, ws, on, ar, sy, ct⟩ (.slice A ws.length cap)) 30) (.cells zeroR 30))
  have HN := Lib.hid (zero_has w (RCells ⟨last, ws, on, ar, sy, ct⟩ (.slice A ws.length cap)))
  have HN1 := Lib.hid (first_has w (RCells ⟨last, ws, on, ar, sy, ct⟩ (.slice A ws.length cap)) (.cells zeroR 30))
  have HR2 := Lib.hid (hr.below HB.out)
  have HROW := Lib.hid hrow
  clear hr hc hrow
  unfold RD at HC ⊢
  unfold RCells zeroR at HB HN HN1 HR2
  simp only at HC HB HN HN1 HR2 ⊢
  by_cases hw : ws = []
  · subst hw
    have hv := HR2.out.2 rfl
    simp only [List.length_nil, Value.slice.injEq] at hv
    obtain ⟨rfl, -, rfl⟩ := hv
    simp only [List.length_nil] at HC HB HN HN1 HR2 ⊢
    go_enter Tryz.func73, Tryz.ntmps73
    go_wp2_with fail
    refine (HC.out _).mono ?_
    rintro e w2 ⟨rfl, b2⟩
    have R2 := Lib.hid (HR2.out.below b2)
    have K2 := Lib.hid (HN1.out.below b2)
    have Z2 := Lib.hid (HN.out.below b2)
    have B2 := Lib.hid (bthen HB.out b2)
    have k0 := K2.out.cell 0; have k1 := K2.out.cell 1; have k2 := K2.out.cell 2; have k3 := K2.out.cell 3; have k4 := K2.out.cell 4; have k5 := K2.out.cell 5
    have hs2 := Z2.out.lt
    clear b2
    go_wp2_with (first
      | (at_builtin; refine wpList_append_own_none rfl _ _ _ rfl 0 122 i0 2 Tryz.underlying28 hi0 (.slice none 0 0) 0 [] rfl (World.ownsRow_nil _ _ _ _) rfl ?_)
      | (at_builtin; refine wpList_append_lies _ rfl _ _ _ rfl w2.heap.size 122 i0 _ 2 24 Tryz.underlying28 hi0 hz0 hz1 hz2 rfl (by omega) (.slice none 0 0) 0 [] rfl (World.ownsRow_nil _ _ _ _) ⟨w2.heap.size, 0, none⟩ 1 1 [.int .i64 (q : Int), .string t] rfl rfl (World.news_of_block (cs := #[.int .i64 (q : Int), .string t]) (t := 122) (fr := (0, 0)) (heap_alloc_new w2 _)) (by simp [Value.oneCell']) (by omega) (by unfold maxLen; omega) (by omega) (by simp) (w2.heap.size + 1) (by simp) ?_; intro g4 cap4 w4 hown4 hgrow4 hat4 hlt4;
         have K4 := Lib.hid (has_grown (K2.out.alloc _) hgrow4 (by simp [Value.ownBlock]));
         have Z4 := Lib.hid (has_grown (Z2.out.alloc _) hgrow4 (by simp [Value.ownBlock]));
         have B4 := Lib.hid (below_grown (B2.out.alloc (by omega) _) hgrow4 (by simp; omega) (by simp [Value.ownBlock]));
         clear k0 k1 k2 k3 k4 k5;
         have k0 := K4.out.cell 0; have k1 := K4.out.cell 1; have k2 := K4.out.cell 2; have k3 := K4.out.cell 3; have k4 := K4.out.cell 4; have k5 := K4.out.cell 5;
         have z0 := Z4.out.cell 0; have z1 := Z4.out.cell 1; have z2 := Z4.out.cell 2; have z3 := Z4.out.cell 3; have z4 := Z4.out.cell 4; have z5 := Z4.out.cell 5;
         have f4 := K4.out.frozen; have y4 := Z4.out.frozen;
         have HO4 := Lib.hid hown4; clear hown4 hgrow4 hat4))
    have hrow4 := RW.of_own (ws := [] ++ [(q, t)]) HO4.out (by simp) (by rw [rows_snoc]; rfl) (by simp)
    have hne1 := hrow4.apart K4.out (by decide)
    have hne2 := hrow4.apart Z4.out (by decide)
    have HF := Lib.hid (And.intro hrow4 (And.intro hne1 hne2))
    clear hrow4 hne1 hne2
    refine bodyPost_ret (v := .tuple #[RD ⟨last, [] ++ [(q, t)], on, ar, sy, ct⟩ (.slice (some ⟨g4, 0, none⟩) (0 + 1) cap4), .int .i64 0]) (by simp [results, Tryz.results73, go_sem, RD, z0, z1, z2, z3, z4, z5]) rfl ?_
    exact ⟨_, rfl, (HF.out.1.set1 HF.out.2.1 _).set6 HF.out.2.2 _ _ _ _ _ _, below6 (B4.out.setCell (p := ⟨w.heap.size, 1, none⟩) (Nat.le_refl _) _) (Nat.le_succ _) _ _ _ _ _ _⟩
  · have hw0 : 0 < ws.length := (by cases ws with | nil => exact absurd rfl hw | cons _ _ => simp)
    clear hw
    obtain ⟨g, rfl, hg, -⟩ := HROW.out hw0
    go_enter Tryz.func73, Tryz.ntmps73
    go_wp2_with fail
    refine (HC.out _).mono ?_
    rintro e w2 ⟨rfl, b2⟩
    have R2 := Lib.hid (HR2.out.below b2)
    have K2 := Lib.hid (HN1.out.below b2)
    have Z2 := Lib.hid (HN.out.below b2)
    have B2 := Lib.hid (bthen HB.out b2)
    have k0 := K2.out.cell 0; have k1 := K2.out.cell 1; have k2 := K2.out.cell 2; have k3 := K2.out.cell 3; have k4 := K2.out.cell 4; have k5 := K2.out.cell 5
    have hs2 := Z2.out.lt
    clear b2
    go_wp2_with (first
      | (at_builtin; refine wpList_append_lies _ rfl _ _ _ rfl w2.heap.size 122 i0 _ 2 24 Tryz.underlying28 hi0 hz0 hz1 hz2 rfl (by omega) (.slice none 0 0) 0 [] rfl (World.ownsRow_nil _ _ _ _) ⟨g, 0, none⟩ ws.length cap (rows ws) rfl R2.out.1.1 (R2.out.1.cells rfl) (rows_one ws) (by omega) (by unfold maxLen; omega) (by omega) (by omega) w2.heap.size (by rfl) ?_; intro g1 cap1 w3 hown1 hgrow1 hat1 hlt1;
         obtain rfl : g1 = w2.heap.size := hat1.resolve_left (by simp [Value.ownBlock]);
         have K3 := Lib.hid (has_grown K2.out hgrow1 (by simp [Value.ownBlock]));
         have Z3 := Lib.hid (has_grown Z2.out hgrow1 (by simp [Value.ownBlock]));
         have B3 := Lib.hid (below_grown B2.out hgrow1 (by omega) (by simp [Value.ownBlock]));
         have S3 := hgrow1.size;
         clear hgrow1 hat1 k0 k1 k2 k3 k4 k5;
         simp only [Nat.zero_add, List.nil_append] at hown1 ⊢;
         have HO1 := Lib.hid hown1; clear hown1)
      | (at_builtin; refine wpList_append_lies _ rfl _ _ _ rfl w2.heap.size 122 i0 _ 2 24 Tryz.underlying28 hi0 hz0 hz1 hz2 rfl (by omega) (.slice (some ⟨w2.heap.size, 0, none⟩) ws.length cap1) ws.length (rows ws) rfl (HO1.out.alloc _) ⟨w3.heap.size, 0, none⟩ 1 1 [.int .i64 (q : Int), .string t] rfl rfl (World.news_of_block (cs := #[.int .i64 (q : Int), .string t]) (t := 122) (fr := (0, 0)) (heap_alloc_new w3 _)) (by simp [Value.oneCell']) (by omega) (by unfold maxLen; omega) (by omega) (by simp; omega) (w3.heap.size + 1) (by simp) ?_; intro g4 cap4 w4 hown4 hgrow4 hat4 hlt4;
         have K4 := Lib.hid (has_grown (K3.out.alloc _) hgrow4 (by simp [Value.ownBlock]; omega));
         have Z4 := Lib.hid (has_grown (Z3.out.alloc _) hgrow4 (by simp [Value.ownBlock]; omega));
         have B4 := Lib.hid (below_grown (B3.out.alloc (by omega) _) hgrow4 (by simp; omega) (by simp [Value.ownBlock]; omega));
         have k0 := K4.out.cell 0; have k1 := K4.out.cell 1; have k2 := K4.out.cell 2; have k3 := K4.out.cell 3; have k4 := K4.out.cell 4; have k5 := K4.out.cell 5;
         have z0 := Z4.out.cell 0; have z1 := Z4.out.cell 1; have z2 := Z4.out.cell 2; have z3 := Z4.out.cell 3; have z4 := Z4.out.cell 4; have z5 := Z4.out.cell 5;
         have f4 := K4.out.frozen; have y4 := Z4.out.frozen;
         have HO4 := Lib.hid hown4; clear hown4 hgrow4 hat4))
    have hrow4 := RW.of_own (ws := ws ++ [(q, t)]) HO4.out (by simp) (by rw [rows_snoc]) (by simp)
    have hne1 := hrow4.apart K4.out (by decide)
    have hne2 := hrow4.apart Z4.out (by decide)
    have HF := Lib.hid (And.intro hrow4 (And.intro hne1 hne2))
    clear hrow4 hne1 hne2
    refine bodyPost_ret (v := .tuple #[RD ⟨last, ws ++ [(q, t)], on, ar, sy, ct⟩ (.slice (some ⟨g4, 0, none⟩) (ws.length + 1) cap4), .int .i64 0]) (by simp [results, Tryz.results73, go_sem, RD, z0, z1, z2, z3, z4, z5]) rfl ?_
    exact ⟨_, rfl, (HF.out.1.set1 HF.out.2.1 _).set6 HF.out.2.2 _ _ _ _ _ _, below6 (B4.out.setCell (p := ⟨w.heap.size, 1, none⟩) (Nat.le_refl _) _) (Nat.le_succ _) _ _ _ _ _ _⟩
theorem rPut_calls (n : Nat) (s : DSt) (v : Value) (k : Int) (t : ByteArray) (hs : Good n s) (w : World) (hr : RW v s.wait w) :
    Calls Tryz.prog 73 #[RD s v, .int .i64 k, .string t] w (RPost2 (wrote s k t) (ans s k t) w) := by
  have hl : s.last.length ≤ 262144 := by have := hs.len; have := hs.hn; omega
  by_cases h : ans s k t = 0
  · obtain ⟨h1, h2⟩ := ans_zero h
    obtain ⟨_, h3, _⟩ := chk_zero h1
    have e : wrote s k t = { s with wait := s.wait ++ [(k.toNat, t)] } := by unfold wrote; rw [if_pos h]
    rw [e, h]
    obtain ⟨q, rfl⟩ := Int.eq_ofNat_of_zero_le h3
    exact rPut_yes s v q t h1 h2 hl hs.many w hr
  · rw [wrote_no s k t h]
    exact rPut_no s v k t h hl w hr
end Go.Proofs.YtjnjcjildiadgaaGreatDoor.Disk
/- The walk of disk.Disk.Read. -/
namespace Go.Proofs.YtjnjcjildiadgaaGreatDoor.Disk
open Go Go.RowKit Frame
/-- A block of 64 bytes of a disk. -/
def blk (l : List UInt8) (k : Nat) : List UInt8 := (l.drop (64 * k)).take 64
theorem blk_length (l : List UInt8) (k n : Nat) (hl : l.length = 64 * n) (hk : k < n) : (blk l k).length = 64 := by unfold blk; simp; omega
theorem blk_put (l : List UInt8) (k n : Nat) (d : List UInt8) (hl : l.length = 64 * n) (hk : k < n) (hd : d.length ≤ 64) : blk (put l k d) k = d ++ (blk l k).drop d.length := by
  unfold blk put
  have h1 : (l.take (64 * k)).length = 64 * k := by simp; omega
  rw [List.drop_append_of_le_length (by omega), List.drop_of_length_le (by omega), List.nil_append, List.take_append, List.take_of_length_le hd]
  congr 1
  rw [List.drop_take, List.drop_drop]
theorem size1U8 : (Tryz.prog.info? 5).map (·.size) = some 1 := by
  have h := infoU8
  simp only [Option.map_eq_some_iff] at h ⊢
  obtain ⟨i, hi, he⟩ := h
  simp only [Prod.mk.injEq] at he
  exact ⟨i, hi, he.2.1⟩
/-- What Read has gathered of some of the writes. -/
structure ReadI (last : List UInt8) (ws : List Wr) (q k : Nat) (w wr : World) : Prop where
  has : Has w.heap.size (bcells (blk (all last (ws.take k)) q)) 132 wr
  bel : Below w.heap.size w wr
theorem setCells_has {b : Nat} {l d : List UInt8} {t : TypeId} {w : World} (h : Has b (bcells l) t w) (hl : d.length ≤ l.length) : Has b (bcells (d ++ l.drop d.length)) t (w.setCells b 0 (d.map fun x : UInt8 => Value.int .u8 (x.toNat : Int))) := by
  have := Has.setCells (d.map fun x : UInt8 => Value.int .u8 (x.toNat : Int)) 0 _ _ h (by simpa using hl)
  simpa [bcells, List.map_drop] using this
theorem setCells_below {B b o : Nat} {a w : World} (h : Below B a w) (hb : B ≤ b) (hB : B ≤ w.heap.size) (vs : List Value) : Below B a (w.setCells b o vs) :=
  Only.to_below h (Only.setCells vs o _ (Only.refl b w)) hb hB
theorem all_snoc (s : List UInt8) (ws : List Wr) (b : Nat) (t : ByteArray) : all s (ws ++ [(b, t)]) = put (all s ws) b t.data.toList := by
  rw [all_append]
  rfl
set_option maxRecDepth 100000 in
set_option maxHeartbeats 2000000 in
theorem Read_yes (base d L n : Nat) (wv : Value) (s : DSt) (q : Nat) (hc : chk s q = 0) (hs : Good n s) (w : World) (h : Dk base d L wv s w) :
    Calls Tryz.prog 65 #[.pointer (some ⟨d, 0, none⟩), .int .i64 (q : Int)] w fun e w' => e = .returned (.tuple #[.string (Oct.bs (blk (all s.last s.wait) q)), .int .i64 0]) ∧ Below w.heap.size w w' := by
  have hl : s.last.length ≤ 262144 := by have := hs.len; have := hs.hn; omega
  have HC := Lib.hid (check_calls base d L wv s q hl _ h)
  rw [hc] at HC
  have hqn : q < n := by
    obtain ⟨_, _, h4⟩ := chk_zero hc
    have := hs.len
    omega
  have hll := hs.len
  have hn := hs.hn
  have HG := Lib.hid hs
  have H := Lib.hid h
  have hLw := h.l.lt
  have hdw := h.h.lt
  have HBL := Lib.hid (blk_length s.last q n hs.len hqn)
  clear hs h hc
  go_enter Tryz.func65, Tryz.ntmps65
  go_wp2_with fail
  refine HC.out.mono ?_
  rintro e w1 ⟨rfl, rfl⟩
  have e1 : IntKind.i64.wrap ((q : Int) * 64) = (q : Int) * 64 := IntWalk.i64_in _ (by omega)
  have hk0 : (0 : Int) ≤ (q : Int) * 64 := by omega
  have hk1 : (q : Int) * 64 ≤ 64 * (n : Int) := by omega
  have hk2 : (q : Int) * 64 < 64 * (n : Int) := by omega
  have hk3 : q * 64 < 64 * n := by omega
  have hk5 : ((q : Int) * 64).toNat = q * 64 := by omega
  have hk6 : ¬ 64 * n = q * 64 := by omega
  have hk4 : q * 64 ≤ 64 * n := by omega
  go_wp2_with fail
  change Code.wp _ _ _ _ (w.alloc (.cells (bcells (List.replicate 64 0)) 132))
  have HW1 := Lib.hid (Has.new w (bcells (List.replicate 64 0)) 132)
  have HB1 := Lib.hid ((Below.refl w.heap.size w).alloc (Nat.le_refl _) (.cells (bcells (List.replicate 64 0)) 132))
  generalize w.alloc (.cells (bcells (List.replicate 64 0)) 132) = w1 at *
  have H1 := Lib.hid (H.out.below HB1.out)
  have y0 : w1.drew.cell? ⟨d, 0, none⟩ = some (.slice (some ⟨L, 0, none⟩) s.last.length s.last.length) := H1.out.c0
  have hcs : ((blk s.last q).map fun x : UInt8 => Value.int .u8 (x.toNat : Int)).length = 64 := by rw [List.length_map]; exact HBL.out
  have HCP := Lib.hid (run_copy_cells (P := Tryz.prog) w1.drew 54 54 3 5 w.heap.size 0 64 64 ⟨L, q * 64, none⟩ (64 * n - q * 64) (64 * n - q * 64) ((blk s.last q).map fun x : UInt8 => Value.int .u8 (x.toNat : Int)) Tryz.underlying54 size1U8
    (by rw [hcs]; show 64 = min (64 * n - q * 64) 64; omega)
    (fun j v hj => by
      have hadd : (⟨L, q * 64, none⟩ : Addr).add j = ⟨L, q * 64 + j, none⟩ := by unfold Addr.add; split <;> simp_all
      rw [hadd, H1.out.l.drew.cell]
      have hjl : j < 64 := by
        rcases Nat.lt_or_ge j 64 with h | h
        · exact h
        · rw [List.getElem?_eq_none (by rw [hcs]; exact h)] at hj; cases hj
      rw [← hj]
      simp only [bcells, blk, List.getElem?_toArray, List.getElem?_map, List.getElem?_take_of_lt hjl, List.getElem?_drop]
      rw [Nat.mul_comm q 64])
    (fun j hj => by
      rw [hcs] at hj
      rw [HW1.out.drew.cell, Array.getElem?_eq_getElem (by simp [bcells]; omega)]
      rfl)
    (fun j _ => HW1.out.drew.frozen _)
    (fun v hv => by
      rw [List.mem_map] at hv
      obtain ⟨x, _, rfl⟩ := hv
      rfl))
  clear hcs
  have hsz1 : w.heap.size ≤ w1.drew.heap.size := HB1.out.size
  have z0 := ((Only.setCells ((blk s.last q).map fun x : UInt8 => Value.int .u8 (x.toNat : Int)) 0 _ (Only.refl w.heap.size w1.drew)).cell (p := ⟨d, 0, none⟩) (by show d < _; omega) (by show d ≠ _; omega)).trans y0
  have Z0 := Lib.hid z0
  clear z0
  go_wp2_with fail
  go_region_held3 (fun w' => w'.cell? ⟨d, 0, none⟩ = some (.slice (some ⟨L, 0, none⟩) s.last.length s.last.length)) (first | exact y0 | exact Z0.out)
    ((refine step_copy_runI rfl _ _ _ _ (by rfl) _ _ (by rfl) (by rfl) HCP.out ?_))
  have HI := Lib.hid (show ReadI s.last s.wait q 0 w (w1.drew.setCells w.heap.size 0 ((blk s.last q).map fun x : UInt8 => Value.int .u8 (x.toNat : Int))) from
    ⟨by
      have h := setCells_has HW1.out.drew (d := blk s.last q) (by rw [HBL.out]; simp)
      rw [HBL.out, List.drop_of_length_le (by simp), List.append_nil] at h
      exact h, setCells_below HB1.out.drew (Nat.le_refl _) hsz1 _⟩)
  clear HW1 y0 Z0 HCP
  generalize w1.drew.setCells w.heap.size 0 ((blk s.last q).map fun x : UInt8 => Value.int .u8 (x.toNat : Int)) = w2 at *
  obtain ⟨A, cap, rfl, hrow⟩ := H.out.row
  have HR := Lib.hid hrow
  have c1 := (HI.out.bel.cell (p := ⟨d, 1, none⟩) hdw).trans H.out.c1
  have hmn := HG.out.many
  clear hrow
  go_wp2_with fail
  go_loopw [30] (fun i wr => ∃ k : Nat, k ≤ s.wait.length ∧ i = .int .i64 k ∧ Hid (ReadI s.last s.wait q k w wr)) (fun i _ => s.wait.length - (intOf i).toNat)
  case atStart => exact ⟨0, by omega, rfl, HI⟩
  case round =>
    obtain ⟨k, hk, rfl, hI⟩ := hrel
    by_cases hlt : k < s.wait.length
    · obtain ⟨g, rfl, hg, hi⟩ := HR.out (by omega)
      obtain ⟨r0, r1⟩ := hi k hlt
      have hcc := fun o => hI.out.bel.cell (p := ⟨g, o, none⟩) hg
      rw [← hcc] at r0 r1
      clear hi hcc
      have hfx := HG.out.fits _ (show s.wait.getD k (0, ByteArray.empty) ∈ s.wait by simp [List.getD_eq_getElem?_getD, hlt])
      have HS := Lib.hid (take_snoc s.wait k hlt)
      have hal := all_length n (s.wait.take k) s.last HG.out.len (fun x hx => HG.out.fits x (List.mem_of_mem_take hx))
      have HAL := Lib.hid hal
      clear hal
      generalize s.wait.getD k (0, ByteArray.empty) = x at *
      obtain ⟨b, t⟩ := x
      simp only at hfx r0 r1
      by_cases hb : b = q
      · subst hb
        have HBL2 := Lib.hid (blk_length _ b n HAL.out hqn)
        have hX : Has wr.heap.size #[.int .i64 (b : Int), .string t] 120 (wr.alloc (.cells #[.int .i64 (b : Int), .string t] 120)).drew := (Has.new _ _ _).drew
        have hRX : Has w.heap.size (bcells (blk (all s.last (s.wait.take k)) b)) 132 (wr.alloc (.cells #[.int .i64 (b : Int), .string t] 120)).drew := (hI.out.has.alloc _).drew
        have x1 := hX.cell 1
        have hwr := hI.out.has.lt
        have z1 := ((Only.setCells (t.data.toList.map fun x : UInt8 => Value.int .u8 (x.toNat : Int)) 0 _ (Only.refl w.heap.size (wr.alloc (.cells #[.int .i64 (b : Int), .string t] 120)).drew)).cell (p := ⟨wr.heap.size, 1, none⟩) hX.lt (by show wr.heap.size ≠ _; omega)).trans x1
        have hcl : ∀ j, j < t.size → ((wr.alloc (.cells #[.int .i64 (b : Int), .string t] 120)).drew.cell? ⟨w.heap.size, 0 + j, none⟩).isSome = true := fun j hj => by
          rw [hRX.cell, Array.getElem?_eq_getElem (by simp only [bcells, List.size_toArray, List.length_map, HBL2.out]; omega)]
          rfl
        have hfl : ∀ j, j < t.size → (wr.alloc (.cells #[.int .i64 (b : Int), .string t] 120)).drew.frozen? ⟨w.heap.size, 0 + j, none⟩ = false := fun j _ => hRX.frozen _
        have HCL := Lib.hid hcl
        have HFL := Lib.hid hfl
        have Z1 := Lib.hid z1
        have HT64 := Lib.hid hfx.2
        have HJ := Lib.hid (show ReadI s.last s.wait b (k + 1) w ((wr.alloc (.cells #[.int .i64 (b : Int), .string t] 120)).drew.setCells w.heap.size 0 (t.data.toList.map fun x : UInt8 => Value.int .u8 (x.toNat : Int))) from
          ⟨by
            rw [HS.out, all_snoc, blk_put _ b n _ HAL.out hqn (by simpa using hfx.2)]
            exact setCells_has hRX (by rw [HBL2.out]; simpa using hfx.2), setCells_below ((hI.out.bel.alloc hI.out.bel.size _).drew) (Nat.le_refl _) (by have := hRX.lt; omega) _⟩)
        clear hcl hfl z1 hX hRX
        go_wp2_with fail
        go_region_held3 (fun w' => w'.cell? ⟨wr.heap.size, 1, none⟩ = some (.string t)) (first | exact x1 | exact Z1.out)
          ((refine step_copy_string rfl _ _ _ _ (by rfl) 5 Tryz.underlying54 sizeU8 w.heap.size 0 64 64 (by rfl) t (by rfl) HT64.out HCL.out HFL.out ?_))
        clear x1 Z1 HCL HFL
        generalize (wr.alloc (.cells #[.int .i64 (b : Int), .string t] 120)).drew.setCells w.heap.size 0 (t.data.toList.map fun x : UInt8 => Value.int .u8 (x.toNat : Int)) = w5 at *
        go_wp2_with fail
        exact ⟨⟨k + 1, by omega, by go_num, HJ⟩, by simp [intOf]; omega⟩
      · have hb' : ((b : Int) == (q : Int)) = false := by simp; omega
        have HJ := Lib.hid (show ReadI s.last s.wait q (k + 1) w (wr.alloc (.cells #[.int .i64 (b : Int), .string t] 120)) from
          ⟨by
            rw [HS.out, all_snoc, show blk (put (all s.last (s.wait.take k)) b t.data.toList) q = blk (all s.last (s.wait.take k)) q from
              put_other _ b _ n q HAL.out hfx.1 (by simpa using hfx.2) (fun e => hb e.symm)]
            exact hI.out.has.alloc _, hI.out.bel.alloc hI.out.bel.size _⟩)
        clear hb
        go_wp2_with fail
        exact ⟨⟨k + 1, by omega, by go_num, HJ⟩, by simp [intOf]; omega⟩
    · obtain rfl : k = s.wait.length := by omega
      have hw := hI.out.has
      rw [List.take_length] at hw
      have hal := all_length n s.wait s.last HG.out.len HG.out.fits
      have hbl := blk_length _ q n hal hqn
      generalize hrr : blk (all s.last s.wait) q = r at *
      have HRR := Lib.hid hrr
      clear hrr
      have hby : Lib.Bytes wr w.heap.size 0 (Oct.bs r) := fun i hi => by
        rw [hw.cell]
        have hi' : i < r.length := by rw [← Oct.bs_size]; exact hi
        simp only [bcells, Nat.zero_add, List.getElem?_toArray, List.getElem?_map, List.getElem?_eq_getElem hi', Option.map_some]
        rfl
      have hcv := Lib.run_convert_whole (P := Tryz.prog) wr 54 5 9 Tryz.underlying54 Tryz.underlying5 Tryz.underlying9 w.heap.size 0 (Oct.bs r) hby 64
      rw [Oct.bs_size, hbl] at hcv
      clear hby hw hal hbl
      go_wp2_with fail
      go_ret2
      rw [HRR.out]
      exact ⟨rfl, hI.out.bel⟩
end Go.Proofs.YtjnjcjildiadgaaGreatDoor.Disk
