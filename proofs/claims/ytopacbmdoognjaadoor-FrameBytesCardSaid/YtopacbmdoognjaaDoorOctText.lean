/- The walk of octet.Out.Text: a text that has room, and one that has none. -/
import Derived.Test.YtopacbmdoognjaaDoorOctOut
namespace Go.Proofs.YtopacbmdoognjaaDoor.Oct
open Go Go.RowKit
/-- What a call of Text lays first. -/
def TextW (s : ByteArray) (e : Int) (w : World) : World :=
  (w.alloc (.cells #[.string s, .int .i64 e] 114)).alloc (.cells #[.string { data := #[] }, .int .i64 0] 114)
theorem TextW.below (s : ByteArray) (e : Int) (w : World) : Below w.heap.size w (TextW s e w) := ((Below.refl _ _).alloc (Nat.le_refl _) _).alloc (by simp) _
theorem TextW.size (s : ByteArray) (e : Int) (w : World) : (TextW s e w).heap.size = w.heap.size + 1 + 1 := by simp [TextW]

set_option maxHeartbeats 1000000 in
/-- A text that has room. -/
theorem OutText_calls (s t : ByteArray) (e : Int) (hs : s.size ≤ 3000000000000000000) (ht : t.size ≤ 65535) (w : World) :
    Calls Tryd.prog 81 #[.agg #[.string s, .int .i64 e], .string t] w fun e' w' => e' = .returned (.agg #[.string (bs (s.data.toList ++ txt t.data.toList)), .int .i64 e]) ∧ Below w.heap.size w w' := by
  go_enter Tryd.func81, Tryd.ntmps81
  go_wp2_with fail
  refine (OutNum_calls s e t.size 2 (by omega) (by omega) (TextW s e w)).mono ?_
  rintro e' w1 ⟨rfl, hb1⟩
  have hz1 := hb1.size
  rw [TextW.size] at hz1
  go_wp2_with fail
  refine (OutRaw_calls _ t e (by rw [bs_size, List.length_append, be_length]; have := wid_le 2; simp; omega) (by omega) w1).mono ?_
  rintro e' w2 ⟨rfl, hb2⟩
  have hz2 := hb2.size
  have hb : Below (w.heap.size + 1 + 1) (TextW s e w) w2 := by
    rw [TextW.size] at hb1
    exact hb1.trans (hb2.mono hz1)
  have d0 : w2.cell? ⟨w.heap.size + 1, 0, none⟩ = some (.string ⟨#[]⟩) := by rw [hb.cell (by simp)]; simp [TextW, go_sem]
  have d1 : w2.cell? ⟨w.heap.size + 1, 1, none⟩ = some (.int .i64 0) := by rw [hb.cell (by simp)]; simp [TextW, go_sem]
  have g0 : w2.frozen? ⟨w.heap.size + 1, 0, none⟩ = false := by rw [hb.frozen (by simp)]; simp [TextW, go_sem]
  have g1 : w2.frozen? ⟨w.heap.size + 1, 1, none⟩ = false := by rw [hb.frozen (by simp)]; simp [TextW, go_sem]
  have HB := Lib.hid ((TextW.below s e w).trans (hb.mono (by omega)))
  clear hb1 hb2 hb
  go_wp2_with fail
  refine bodyPost_ret (v := .agg #[.string (bs ((bs (s.data.toList ++ be (wid 2) t.size)).data.toList ++ t.data.toList)), .int .i64 e]) (by simp [results, Tryd.results81, go_sem, d0, d1]) rfl ⟨?_, ?_⟩
  · rw [bs_toList, List.append_assoc]
    rw [show wid 2 = 2 from rfl]; simp [txt]
  · exact (HB.out.setCell (Nat.le_succ _) _).setCell (Nat.le_succ _) _

set_option maxHeartbeats 1000000 in
/-- A text that has none: nothing is written, and it is told. -/
theorem OutText_long (s t : ByteArray) (e : Int) (ht : 65535 < t.size) (w : World) :
    Calls Tryd.prog 81 #[.agg #[.string s, .int .i64 e], .string t] w fun e' w' => e' = .returned (.agg #[.string s, .int .i64 (if e = 0 then 5 else e)]) ∧ Below w.heap.size w w' := by
  by_cases he : e = 0
  · subst he
    go_enter Tryd.func81, Tryd.ntmps81
    go_wp2_with fail
    refine bodyPost_ret (v := .agg #[.string s, .int .i64 5]) (by simp [results, Tryd.results81, go_sem]) rfl ⟨rfl, ?_⟩
    exact ((Below.refl _ _).alloc (Nat.le_refl _) _).alloc (by simp) _
  · have he' : (e == 0) = false := by simpa using he
    rw [if_neg he]
    go_enter Tryd.func81, Tryd.ntmps81
    go_wp2_with fail
    refine bodyPost_ret (v := .agg #[.string s, .int .i64 e]) (by simp [results, Tryd.results81, go_sem]) rfl ⟨rfl, ?_⟩
    exact ((Below.refl _ _).alloc (Nat.le_refl _) _).alloc (by simp) _
end Go.Proofs.YtopacbmdoognjaaDoor.Oct
