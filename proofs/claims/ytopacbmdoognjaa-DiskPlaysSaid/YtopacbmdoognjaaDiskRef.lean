/- The walks of the document's disk (stairwellref15): Held, New, put, Check, Done, Waits. -/
import Derived.Test.YtopacbmdoognjaaDiskKeeps
namespace Go.Proofs.Ytopacbmdoognjaa.Disk
open Go Go.RowKit Frame
/-- The document's disk as a value; what waits lies in a row. -/
def RD (s : DSt) (v : Value) : Value := .agg #[.string (Oct.bs s.last), v, .bool s.on, .bool s.armed, .int .i64 s.syncs, .int .i64 s.cut]
def RW (v : Value) (ws : List Wr) (w : World) : Prop := w.ownsRow 0 127 2 v ws.length (rows ws) ∧ (ws.length = 0 → v = .slice none 0 0)
theorem RW.below {v : Value} {ws : List Wr} {w w' : World} (h : RW v ws w) (hb : Below w.heap.size w w') : RW v ws w' := by
  obtain ⟨⟨hlen, hv⟩, hnil⟩ := h
  refine ⟨⟨hlen, ?_⟩, hnil⟩
  rcases hv with hv | ⟨g, cap, cur, rfl, hb', hg, hr⟩
  · exact .inl hv
  · exact .inr ⟨g, cap, cur, rfl, hb', (hb.block g (Has.lt (cs := cur) hg)).trans hg, hr⟩
theorem RW.kept {v : Value} {ws : List Wr} {w w' : World} (h : RW v ws w) (hk : Kept w w') : RW v ws w' := by
  obtain ⟨⟨hlen, hv⟩, hnil⟩ := h
  refine ⟨⟨hlen, ?_⟩, hnil⟩
  rcases hv with hv | ⟨g, cap, cur, rfl, hb', hg, hr⟩
  · exact .inl hv
  · exact .inr ⟨g, cap, cur, rfl, hb', hk g cur _ (by decide) (by decide) (by decide) hg, hr⟩
theorem RW.nil (w : World) : RW (.slice none 0 0) [] w := ⟨⟨rfl, .inl ⟨rfl, rfl⟩⟩, fun _ => rfl⟩
theorem RW.row {v : Value} {ws : List Wr} {w : World} (h : RW v ws w) :
    ∃ A cap, v = .slice A ws.length cap ∧ (0 < ws.length → ∃ g, A = some ⟨g, 0, none⟩ ∧ g < w.heap.size ∧ ∀ i, i < ws.length → w.cell? ⟨g, i * 2, none⟩ = some (.int .i64 ((ws.getD i (0, ByteArray.empty)).1 : Int)) ∧ w.cell? ⟨g, i * 2 + 1, none⟩ = some (.string (ws.getD i (0, ByteArray.empty)).2)) := by
  obtain ⟨⟨hlen, hv⟩, -⟩ := h
  rcases hv with ⟨rfl, hz⟩ | ⟨g, cap, cur, rfl, hb, hg, hc, hm, hs, ht⟩
  · exact ⟨none, 0, by rw [hz], fun h => by omega⟩
  · refine ⟨some ⟨g, 0, none⟩, cap, rfl, fun _ => ⟨g, rfl, Has.lt (cs := cur) hg, fun i hi => ?_⟩⟩
    have hr := rows_at ws i hi
    rw [← ht] at hr
    have hc := fun j => (show w.cell? ⟨g, j, none⟩ = cur[j]? from Has.cell (cs := cur) hg j)
    rw [hc, hc]
    rw [List.getElem?_take_of_lt (by omega), List.getElem?_take_of_lt (by omega)] at hr
    simpa using hr
def heldN (n most : Int) : Int := max 0 (min n most)
theorem Held_calls (n m : Int) (w : World) :
    Calls Try.prog 50 #[.int .i64 n, .int .i64 m] w fun e w' => e = .returned (.int .i64 (heldN n m)) ∧ w = w' := by
  by_cases h1 : m < n
  · by_cases h2 : m < 0
    · have HE := Lib.hid (show heldN n m = 0 by unfold heldN; omega)
      go_enter Try.func50, Try.ntmps50
      go_wp2
      go_ret
      rw [HE.out]
      exact ⟨rfl, rfl⟩
    · have HE := Lib.hid (show heldN n m = m by unfold heldN; omega)
      go_enter Try.func50, Try.ntmps50
      go_wp2
      go_ret
      rw [HE.out]
      exact ⟨rfl, rfl⟩
  · by_cases h2 : n < 0
    · have HE := Lib.hid (show heldN n m = 0 by unfold heldN; omega)
      go_enter Try.func50, Try.ntmps50
      go_wp2
      go_ret
      rw [HE.out]
      exact ⟨rfl, rfl⟩
    · have HE := Lib.hid (show heldN n m = n by unfold heldN; omega)
      go_enter Try.func50, Try.ntmps50
      go_wp2
      go_ret
      rw [HE.out]
      exact ⟨rfl, rfl⟩
theorem below6 {B b : Nat} {a w : World} (h : Below B a w) (hb : B ≤ b) (v0 v1 v2 v3 v4 v5 : Value) :
    Below B a ((((((w.setCell ⟨b, 0, none⟩ v0).setCell ⟨b, 1, none⟩ v1).setCell ⟨b, 2, none⟩ v2).setCell ⟨b, 3, none⟩ v3).setCell ⟨b, 4, none⟩ v4).setCell ⟨b, 5, none⟩ v5) :=
  (((((h.setCell (p := ⟨b, 0, none⟩) hb v0).setCell (p := ⟨b, 1, none⟩) hb v1).setCell (p := ⟨b, 2, none⟩) hb v2).setCell (p := ⟨b, 3, none⟩) hb v3).setCell (p := ⟨b, 4, none⟩) hb v4).setCell (p := ⟨b, 5, none⟩) hb v5
set_option maxHeartbeats 1000000 in
theorem rNew_calls (n : Nat) (hn : n ≤ 4096) (w : World) :
    Calls Try.prog 51 #[.int .i64 n] w fun e w' => e = .returned (RD (fresh n) (.slice none 0 0)) ∧ Below w.heap.size w w' := by
  have HE := Lib.hid (show heldN n 4096 = n by unfold heldN; omega)
  go_enter Try.func51, Try.ntmps51
  go_wp2_with fail
  refine (Held_calls _ _ _).mono ?_
  rintro e w1 ⟨rfl, rfl⟩
  rw [HE.out]
  have ec : ((64 * n : Nat) : Int) = 64 * (n : Int) := by omega
  have HC := Lib.hid (Noughts_calls (64 * n) (by omega) (w.alloc (.cells #[.string { data := #[] }, .slice none 0 0, .bool false, .bool false, .int .i64 0, .int .i64 0] 63)))
  rw [ec] at HC
  clear ec
  go_wp2_with fail
  refine HC.out.mono ?_
  rintro e w2 ⟨rfl, b2⟩
  have hz : w.heap.size < w2.heap.size := by have := b2.size; simp at this; omega
  have hn := (Has.new w #[.string { data := #[] }, .slice none 0 0, .bool false, .bool false, .int .i64 0, .int .i64 0] 63).below b2
  have HN := Lib.hid hn
  have c0 := hn.cell 0
  have c1 := hn.cell 1
  have c2 := hn.cell 2
  have c3 := hn.cell 3
  have c4 := hn.cell 4
  have c5 := hn.cell 5
  have f := hn.frozen
  have B := Lib.hid (after_alloc b2)
  clear b2 hn
  go_wp2_with fail
  refine bodyPost_ret (v := RD (fresh n) (.slice none 0 0)) (by simp [results, Try.results51, go_sem, c0, c1, c2, c3, c4, c5, RD, fresh]) rfl ⟨rfl, ?_⟩
  exact below6 B.out (Nat.le_refl _) _ _ _ _ _ _
theorem put_bytes (s : List UInt8) (k : Nat) (t : ByteArray) : ((Oct.bs s).extract 0 (64 * k) ++ t) ++ (Oct.bs s).extract (64 * k + t.size) (Oct.bs s).size = Oct.bs (put s k t.data.toList) := by
  apply Oct.ba_ext
  simp only [ByteArray.data_append, Array.toList_append, put, Oct.bs_toList]
  have e1 : ((Oct.bs s).extract 0 (64 * k)).data.toList = s.take (64 * k) := by simp [Oct.bs]
  have e2 : ((Oct.bs s).extract (64 * k + t.size) (Oct.bs s).size).data.toList = s.drop (64 * k + t.data.toList.length) := by
    rw [Oct.bs_size]
    simp [Oct.bs]
    exact List.take_of_length_le (by simp)
  rw [e1, e2, List.append_assoc]
set_option maxHeartbeats 1000000 in
theorem put_calls (s : List UInt8) (k : Nat) (t : ByteArray) (h : 64 * k + t.size ≤ s.length) (hl : s.length ≤ 262144) (w : World) :
    Calls Try.prog 102 #[.string (Oct.bs s), .int .i64 (k : Int), .string t] w fun e w' => e = .returned (.string (Oct.bs (put s k t.data.toList))) ∧ ∃ m, w' = w.drewN m := by
  have HE := Lib.hid (put_bytes s k t)
  have hz : (Oct.bs s).size = s.length := Oct.bs_size s
  have HZ := Lib.hid hz
  have hz1 : (Oct.bs s).size ≤ 262144 := by omega
  have hz2 : 64 * k + t.size ≤ (Oct.bs s).size := by omega
  clear hz
  generalize Oct.bs s = S at *
  have e1 : IntKind.i64.wrap (64 * (k : Int)) = 64 * (k : Int) := IntWalk.i64_in _ (by omega)
  have e2 : IntKind.i64.wrap (64 * (k : Int) + (t.size : Int)) = 64 * (k : Int) + (t.size : Int) := IntWalk.i64_in _ (by omega)
  have g1 : (0 : Int) ≤ 64 * (k : Int) := by omega
  have g2 : 64 * (k : Int) ≤ (S.size : Int) := by omega
  have g3 : (0 : Int) ≤ 64 * (k : Int) + (t.size : Int) := by omega
  have g4 : 64 * (k : Int) + (t.size : Int) ≤ (S.size : Int) := by omega
  have g5 : (64 * (k : Int)).toNat = 64 * k := by omega
  have g6 : (64 * (k : Int) + (t.size : Int)).toNat = 64 * k + t.size := by omega
  have hx1 : (S.extract 0 (64 * k)).size + t.size ≤ 9223372036854775807 := by simp; omega
  have hx2 : (S.extract 0 (64 * k) ++ t).size + (S.extract (64 * k + t.size) S.size).size ≤ 9223372036854775807 := by simp; omega
  go_enter Try.func102, Try.ntmps102
  go_wp2_with fail
  go_quiet (fail)
  go_wp2_with fail
  go_ret
  exact ⟨congrArg (fun x => Ending.returned (.string x)) HE.out, _, rfl⟩
end Go.Proofs.Ytopacbmdoognjaa.Disk
