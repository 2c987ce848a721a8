/- The walk of disk.Disk.Waits. -/
import Derived.Test.YtopacbmdoognjaaDoorDiskCheck
namespace Go.Proofs.YtopacbmdoognjaaDoor.Disk
open Go Go.RowKit Frame
theorem rows_at (ws : List Wr) : ∀ i, i < ws.length → (rows ws)[i * 2]? = some (.int .i64 ((ws.getD i (0, ByteArray.empty)).1 : Int)) ∧ (rows ws)[i * 2 + 1]? = some (.string (ws.getD i (0, ByteArray.empty)).2) := by
  induction ws with
  | nil => intro i h; cases h
  | cons x ws ih =>
    intro i h
    have e : rows (x :: ws) = .int .i64 (x.1 : Int) :: .string x.2 :: rows ws := by simp [rows]
    rw [e]
    cases i with
    | zero => exact ⟨rfl, rfl⟩
    | succ i =>
      have := ih i (by simpa using h)
      rw [show (i + 1) * 2 = i * 2 + 1 + 1 by omega, show i * 2 + 1 + 1 + 1 = (i * 2 + 1) + 1 + 1 by omega]
      simpa using this
theorem Dk.row {base d L : Nat} {wv : Value} {s : DSt} {w : World} (h : Dk base d L wv s w) :
    ∃ A cap, wv = .slice A s.wait.length cap ∧ (0 < s.wait.length → ∃ g, A = some ⟨g, 0, none⟩ ∧ g < w.heap.size ∧ ∀ i, i < s.wait.length → w.cell? ⟨g, i * 2, none⟩ = some (.int .i64 ((s.wait.getD i (0, ByteArray.empty)).1 : Int)) ∧ w.cell? ⟨g, i * 2 + 1, none⟩ = some (.string (s.wait.getD i (0, ByteArray.empty)).2)) := by
  obtain ⟨hlen, hv⟩ := h.v
  rcases hv with ⟨rfl, hz⟩ | ⟨g, cap, cur, rfl, hb, hg, hc, hm, hs, ht⟩
  · exact ⟨none, 0, by rw [hz], fun h => by omega⟩
  · refine ⟨some ⟨g, 0, none⟩, cap, rfl, fun _ => ⟨g, rfl, Has.lt (cs := cur) hg, fun i hi => ?_⟩⟩
    have hr := rows_at s.wait i hi
    rw [← ht] at hr
    have hc := fun j => (show w.cell? ⟨g, j, none⟩ = cur[j]? from Has.cell (cs := cur) hg j)
    rw [hc, hc]
    rw [List.getElem?_take_of_lt (by omega), List.getElem?_take_of_lt (by omega)] at hr
    simpa using hr
theorem total_take (ws : List Wr) : ∀ k, k < ws.length → total (ws.take (k + 1)) = total (ws.take k) + (ws.getD k (0, ByteArray.empty)).2.size := by
  intro k hk
  rw [List.take_succ_eq_append_getElem hk, total_append]
  simp [total, List.getD_eq_getElem?_getD, hk]
theorem total_le (n : Nat) (ws : List Wr) (h : Fits n ws) : total ws ≤ 64 * ws.length := by
  induction ws with
  | nil => simp [total]
  | cons x ws ih =>
    have h1 := h x (by simp)
    have h2 := ih fun y hy => h y (by simp [hy])
    simp only [total, List.length_cons]
    omega
set_option maxRecDepth 100000 in
set_option maxHeartbeats 1000000 in
theorem Waits_calls (base d L n : Nat) (wv : Value) (s : DSt) (hf : Fits n s.wait) (hn : s.wait.length ≤ 100000) (w : World) (h : Dk base d L wv s w) :
    Calls Tryd.prog 101 #[.pointer (some ⟨d, 0, none⟩)] w fun e w' => e = .returned (.int .i64 (total s.wait)) ∧ Below w.heap.size w w' := by
  have c1 := h.c1
  have H := Lib.hid h
  have HF := Lib.hid hf
  clear h hf
  obtain ⟨A, cap, rfl, hrow⟩ := H.out.row
  have HR := Lib.hid hrow
  clear hrow H
  have hT : total s.wait ≤ 6400000 := by have := total_le n s.wait HF.out; omega
  generalize s.wait = ws at *
  go_enter Tryd.func101, Tryd.ntmps101
  go_wp2_with fail
  go_loopw [3, 13] (fun t i wr => ∃ k : Nat, k ≤ ws.length ∧ i = .int .i64 k ∧ t = .int .i64 ((total (ws.take k) : Nat) : Int) ∧ Hid (Below w.heap.size w wr)) (fun _ i _ => ws.length - (intOf i).toNat)
  case atStart => exact ⟨0, by omega, rfl, rfl, Lib.hid (Below.refl _ _)⟩
  case round =>
    obtain ⟨k, hk, rfl, rfl, hB⟩ := hrel
    by_cases hlt : k < ws.length
    · obtain ⟨g, rfl, hg, hi⟩ := HR.out (by omega)
      obtain ⟨c0, c1'⟩ := hi k hlt
      have hc := fun o => hB.out.cell (p := ⟨g, o, none⟩) hg
      rw [← hc] at c0 c1'
      clear hi hc
      have hkT : total (ws.take (k + 1)) ≤ 6400000 := by
        have h1 := total_append (ws.take (k + 1)) (ws.drop (k + 1))
        rw [List.take_append_drop] at h1
        omega
      have hT2 := total_take ws k hlt
      rw [hT2] at hkT
      have HT := Lib.hid hT2
      clear hT2
      generalize ws.getD k (0, ByteArray.empty) = x at *
      generalize total (ws.take k) = T at *
      go_wp2_with fail
      exact ⟨⟨k + 1, by omega, by go_num, by rw [HT.out]; go_num, Lib.hid (hB.out.alloc hB.out.size _)⟩, by simp [intOf]; omega⟩
    · obtain rfl : k = ws.length := by omega
      rw [List.take_length]
      go_wp2_with fail
      go_ret
      exact ⟨rfl, hB.out⟩
end Go.Proofs.YtopacbmdoognjaaDoor.Disk
