/- The walk of disk.Disk.Write. -/
import Derived.Test.YtopacbmdoognjaaDoorDiskWaits
import Derived.OneCell
namespace Go.Proofs.YtopacbmdoognjaaDoor.Disk
open Go Go.RowKit Frame
/-- Refused: nothing turns. -/
theorem Write_no (base d L : Nat) (wv : Value) (s : DSt) (k : Int) (t : ByteArray) (hk : chk s k ≠ 0) (hl : s.last.length ≤ 262144) (w : World) (h : Dk base d L wv s w) :
    Calls Tryd.prog 57 #[.pointer (some ⟨d, 0, none⟩), .int .i64 k, .string t] w fun e w' => e = .returned (.int .i64 (chk s k)) ∧ w = w' := by
  go_enter Tryd.func57, Tryd.ntmps57
  go_wp2_with fail
  refine (check_calls base d L wv s k hl _ h).mono ?_
  rintro e w1 ⟨rfl, rfl⟩
  clear h
  generalize hc : chk s k = c at *
  have HC := Lib.hid hc
  clear hc
  have h' : (c != 0) = true := by simpa using hk
  go_wp2_with fail
  go_ret
  rw [HC.out]
  exact ⟨rfl, rfl⟩
theorem Write_long (base d L : Nat) (wv : Value) (s : DSt) (k : Int) (t : ByteArray) (hk : chk s k = 0) (ht : 64 < t.size) (hl : s.last.length ≤ 262144) (w : World) (h : Dk base d L wv s w) :
    Calls Tryd.prog 57 #[.pointer (some ⟨d, 0, none⟩), .int .i64 k, .string t] w fun e w' => e = .returned (.int .i64 5) ∧ w = w' := by
  go_enter Tryd.func57, Tryd.ntmps57
  go_wp2_with fail
  refine (check_calls base d L wv s k hl _ h).mono ?_
  rintro e w1 ⟨rfl, rfl⟩
  clear h
  rw [hk]
  go_wp2_with fail
  go_ret
  exact ⟨rfl, rfl⟩
theorem infoW : (Tryd.prog.info? 137).map (fun i => (i.zero, i.size, i.bytes)) = some (some (.agg #[.int .i64 0, .string ⟨#[]⟩]), 2, 24) := by kernel_rfl
/-- What is left of a disk's blocks behind a call: old ones of its own, or new ones. -/
def Held (wv wv' : Value) (w : World) : Prop := wv'.ownBlock = wv.ownBlock ∨ wv'.ownBlock = none ∨ ∃ g, wv'.ownBlock = some g ∧ w.heap.size ≤ g
def WPost (base d L : Nat) (wv : Value) (s' : DSt) (r : Int) (w : World) (e : Ending) (w' : World) : Prop :=
  ∃ wv', e = .returned (.int .i64 r) ∧ Dk base d L wv' s' w' ∧ Turn (Foot d L wv) w w' ∧ Held wv wv' w
theorem grown_old {w w2 : World} {o : Obj} {row : Option Nat} {d i : Nat} (hg : (w.alloc o).grownBy w2 row) (hd : d < w.heap.size) (hne : row ≠ some d) : w2.cell? ⟨d, i, none⟩ = w.cell? ⟨d, i, none⟩ ∧ w2.frozen? ⟨d, i, none⟩ = w.frozen? ⟨d, i, none⟩ := by
  have h : w2.heap[d]? = w.heap[d]? := (hg.block d (by simp; omega) hne.symm).trans (Below.heap_alloc w o d hd)
  exact ⟨World.cell?_of_block (a := ⟨d, i, none⟩) h, World.frozen?_of_block (a := ⟨d, i, none⟩) h⟩
theorem rows_snoc (ws : List Wr) (k : Nat) (t : ByteArray) : rows (ws ++ [(k, t)]) = rows ws ++ [.int .i64 (k : Int), .string t] := by simp [rows]
set_option maxRecDepth 100000 in
set_option maxHeartbeats 1000000 in
theorem Write_calls (base d L : Nat) (wv : Value) (s : DSt) (k : Nat) (t : ByteArray) (hk : chk s k = 0) (ht : t.size ≤ 64) (hl : s.last.length ≤ 262144) (hn : s.wait.length ≤ 100000) (w : World) (h : Dk base d L wv s w) :
    Calls Tryd.prog 57 #[.pointer (some ⟨d, 0, none⟩), .int .i64 (k : Int), .string t] w (WPost base d L wv { s with wait := s.wait ++ [(k, t)] } 0 w) := by
  have c1 := h.c1
  have f1 := h.h.frozen 1
  have hdl := h.h.lt
  have hLl := h.l.lt
  have hb := h.hb
  have H := Lib.hid h
  obtain ⟨hdL, hne1, hne2⟩ := h.ne
  obtain ⟨i0, hi0, hz0, hz1, hz2⟩ := info_parts infoW
  have hown : (w.alloc (.cells #[.int .i64 (k : Int), .string t] 137)).ownsRow base 137 2 wv s.wait.length (rows s.wait) := h.v.alloc _
  go_enter Tryd.func57, Tryd.ntmps57
  go_wp2_with fail
  refine (check_calls base d L wv s k hl _ h).mono ?_
  rintro e w1 ⟨rfl, rfl⟩
  rw [hk]
  clear h
  go_wp2_with (at_builtin; refine wpList_append_lies _ rfl _ _ _ rfl base 137 i0 _ 2 24 Tryd.underlying132 hi0 hz0 hz1 hz2 rfl (by omega) wv s.wait.length (rows s.wait) rfl hown ⟨w.heap.size, 0, none⟩ 1 1 [.int .i64 (k : Int), .string t] rfl rfl (World.news_of_block (cs := #[.int .i64 (k : Int), .string t]) (t := 137) (fr := (0, 0)) (heap_alloc_new w _)) (by simp [Value.oneCell']) (by omega) (by unfold maxLen; omega) (by omega) (by simp; omega) (w.heap.size + 1) (by simp) ?_; intro g cap w2 hown2 hgrow hat hlt; have kf : w2.frozen? ⟨d, 1, none⟩ = false := (grown_old hgrow hdl hne1).2.trans f1; have kc : w2.cell? ⟨d, 1, none⟩ = some wv := (grown_old hgrow hdl hne1).1.trans c1)
  go_ret
  refine ⟨.slice (some ⟨g, 0, none⟩) (s.wait.length + 1) cap, rfl, ?_, ?_, ?_⟩
  · have hd2 : Has d _ _ w2 := (hgrow.block d (by simp; omega) hne1.symm).trans (H.out.h.alloc _)
    have hl2 : Has L _ _ w2 := (hgrow.block L (by simp; omega) hne2.symm).trans (H.out.l.alloc _)
    have hg1 : g ≠ d := by
      rintro rfl
      rcases hat with h1 | h1
      · exact hne1 h1
      · omega
    have hg2 : g ≠ L := by
      rintro rfl
      rcases hat with h1 | h1
      · exact hne2 h1
      · omega
    refine ⟨?_, hl2.set_other hdL _, ?_, ⟨hdL, by simpa [Value.ownBlock] using hg1, by simpa [Value.ownBlock] using hg2⟩, hb⟩
    · have := hd2.set (i := 1) (.slice (some ⟨g, 0, none⟩) (s.wait.length + 1) cap)
      simpa using this
    · have := ownsRow_setCell_other hown2 (a := ⟨d, 1, none⟩) (by simpa [Value.ownBlock] using hg1) (.slice (some ⟨g, 0, none⟩) (s.wait.length + 1) cap)
      rw [rows_snoc]
      simpa using this
  · have hT : Turn (Foot d L wv) w (w.alloc (.cells #[.int .i64 (k : Int), .string t] 137)) := (Turn.refl _ _).alloc _
    exact (hT.grown hgrow fun i hi => .inl (.inr (.inr hi))).setCell (.inl (.inl rfl)) _
  · rcases hat with h1 | h1
    · exact .inl (by rw [h1]; rfl)
    · exact .inr (.inr ⟨g, rfl, by omega⟩)
end Go.Proofs.YtopacbmdoognjaaDoor.Disk
