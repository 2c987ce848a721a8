/- The walks of octet.Out: Num, Raw, Text, String, Err. -/
import Derived.Test.YtopacbmdoognjaaDoorBuilder
import Derived.Test.YtopacbmdoognjaaDoorPlain
import Derived.WalkLawsBesides
import Derived.Outline
import Derived.Lib.Hide
import Derived.Deep.RegionHeld3
import Derived.Deep.RegionWith
namespace Go.Proofs.YtopacbmdoognjaaDoor.Oct
open Go Go.RowKit
theorem wid_cast (b : Int) : min (max b 0) 8 = ((wid b : Nat) : Int) := by unfold wid; omega
/-- What the blocks of a call of Num hold. -/
def NumW (s : ByteArray) (e : Int) (w : World) : World :=
  ((w.alloc (.cells #[.string s, .int .i64 e] 114)).alloc (.cells #[.string { data := #[] }, .int .i64 0] 114)).alloc (.cells #[.pointer none, .slice none 0 0] 119)
structure NumI (s : ByteArray) (e : Int) (l : List UInt8) (w wr : World) : Prop where
  is : Bld.Is (w.heap.size + 1 + 1) (w.heap.size + 1 + 1) l wr
  bel : Below (w.heap.size + 1 + 1) (NumW s e w) wr
theorem NumI.start (s : ByteArray) (e : Int) (w : World) : NumI s e [] w (NumW s e w) := by
  have := Bld.Is.fresh ((w.alloc (.cells #[.string s, .int .i64 e] 114)).alloc (.cells #[.string { data := #[] }, .int .i64 0] 114))
  simp only [World.size_alloc] at this
  exact ⟨this, Below.refl _ _⟩
theorem NumI.size {s : ByteArray} {e : Int} {l : List UInt8} {w wr : World} (h : NumI s e l w wr) : w.heap.size + 1 + 1 < wr.heap.size := by
  have := h.bel.size
  simp [NumW] at this
  omega
theorem NumI.below {s : ByteArray} {e : Int} {l : List UInt8} {w wr : World} (h : NumI s e l w wr) : Below w.heap.size w wr := by
  have h1 : Below w.heap.size w (NumW s e w) := (((Below.refl _ _).alloc (Nat.le_refl _) _).alloc (by simp) _).alloc (by simp; omega) _
  exact h1.trans (h.bel.mono (by omega))
theorem be_step (j q n : Nat) : be (j + 1) (n / 256 ^ q) = be j (n / 256 ^ (q + 1)) ++ [UInt8.ofNat (n / 256 ^ q)] := by
  rw [be, Nat.div_div_eq_div_mul, Nat.pow_succ]
theorem shr_byte (n q : Nat) : ((n : Int) / 2 ^ (8 * q) % 256) = ((UInt8.ofNat (n / 256 ^ q)).toNat : Int) := by
  rw [UInt8.toNat_ofNat', show (256 : Nat) = 2 ^ 8 from rfl, ← Nat.pow_mul]
  simp
theorem NumI.next {s : ByteArray} {e : Int} {l l' : List UInt8} {w w1 w2 : World} (h : NumI s e l w w1) (hi : Bld.Is (w.heap.size + 1 + 1) (w.heap.size + 1 + 1) l' w2) (hb : Below (w.heap.size + 1 + 1) w1 w2) : NumI s e l' w w2 :=
  ⟨hi, h.bel.trans hb⟩
set_option maxRecDepth 100000 in
set_option maxHeartbeats 1000000 in
theorem OutNum_calls (s : ByteArray) (e : Int) (n : Nat) (b : Int) (hb : -9223372036854775808 ≤ b ∧ b ≤ 9223372036854775807) (hs : s.size ≤ 4000000000000000000) (w : World) :
    Calls Tryd.prog 80 #[.agg #[.string s, .int .i64 e], .int .u64 (n : Int), .int .i64 b] w fun e' w' => e' = .returned (.agg #[.string (bs (s.data.toList ++ be (wid b) n)), .int .i64 e]) ∧ Below w.heap.size w w' := by
  go_enter Tryd.func80, Tryd.ntmps80
  go_wp2_with fail
  rw [wid_cast b]
  have hm8 := wid_le b
  generalize hm : wid b = m at *
  have HM := Lib.hid hm
  clear hm
  have HI := Lib.hid (NumI.start s e w)
  change Code.wp _ _ _ _ (NumW s e w)
  unfold NumW at HI ⊢
  generalize ((w.alloc (.cells #[.string s, .int .i64 e] 114)).alloc (.cells #[.string { data := #[] }, .int .i64 0] 114)).alloc (.cells #[.pointer none, .slice none 0 0] 119) = w3 at *
  go_loopw [8] (fun k wr => ∃ j : Nat, j ≤ m ∧ k = .int .i64 ((m : Int) - 1 - j) ∧ Hid (NumI s e (be j (n / 256 ^ (m - j))) w wr)) (fun k _ => (intOf k + 1).toNat)
  case atStart => exact ⟨0, by omega, by simp, HI⟩
  case round =>
    obtain ⟨j, hj, rfl, hI⟩ := hrel
    by_cases hlt : j < m
    · obtain ⟨q, hq⟩ : ∃ q, m = j + 1 + q := ⟨m - j - 1, by omega⟩
      rw [show (m : Int) - 1 - j = (q : Int) by omega]
      rw [show m - j = q + 1 by omega] at hI
      have HB := Lib.hid (be_step j q n)
      have HQ := Lib.hid hq
      have hq8 : q ≤ 8 := by omega
      clear hq
      go_wp2_with fail
      rw [shr_byte]
      refine (Bld.WriteByte_calls _ _ _ _ _ hI.out.is (by rw [be_length]; omega) (by have := hI.out.size; omega)).mono ?_
      rintro e' w1 ⟨rfl, h1, hb1⟩
      rw [← HB.out] at h1
      have HI' := Lib.hid (hI.out.next h1 hb1)
      clear h1 hb1
      go_wp2
      go_roundw
      case rel =>
        have := HQ.out
        exact ⟨j + 1, by omega, congrArg (Value.int .i64) (by omega), by rw [show m - (j + 1) = q by omega]; exact HI'⟩
      case measure => simp [intOf]
    · obtain rfl : j = m := by omega
      rw [Nat.sub_self, Nat.pow_zero, Nat.div_one] at hI
      rw [show (j : Int) - 1 - j = -1 by omega]
      have hsz := hI.out.size
      have hbl := hI.out.bel
      have c0 : wr.cell? ⟨w.heap.size, 0, none⟩ = some (.string s) := by rw [hbl.cell (by simp; omega)]; simp [NumW, go_sem]
      have c1 : wr.cell? ⟨w.heap.size, 1, none⟩ = some (.int .i64 e) := by rw [hbl.cell (by simp; omega)]; simp [NumW, go_sem]
      have d0 : wr.cell? ⟨w.heap.size + 1, 0, none⟩ = some (.string ⟨#[]⟩) := by rw [hbl.cell (by simp)]; simp [NumW, go_sem]
      have d1 : wr.cell? ⟨w.heap.size + 1, 1, none⟩ = some (.int .i64 0) := by rw [hbl.cell (by simp)]; simp [NumW, go_sem]
      have f0 : wr.frozen? ⟨w.heap.size, 0, none⟩ = false := by rw [hbl.frozen (by simp; omega)]; simp [NumW, go_sem]
      have g0 : wr.frozen? ⟨w.heap.size + 1, 0, none⟩ = false := by rw [hbl.frozen (by simp)]; simp [NumW, go_sem]
      have g1 : wr.frozen? ⟨w.heap.size + 1, 1, none⟩ = false := by rw [hbl.frozen (by simp)]; simp [NumW, go_sem]
      clear hbl
      have hcat : s.size + (be j n).length ≤ 9223372036854775807 := by rw [be_length]; omega
      go_wp2_with fail
      go_region_with
        (first | (go_at_call 85; refine (Bld.String_calls _ _ _ _ hI.out.is.drew (by simp; omega)).mono ?_; rintro e' w2 ⟨rfl, hb1⟩;
                  have k0 : ∀ o, w2.cell? ⟨w.heap.size, o, none⟩ = wr.cell? ⟨w.heap.size, o, none⟩ := fun o => hb1.cell (p := ⟨w.heap.size, o, none⟩) (by simp; omega);
                  have k1 : ∀ o, w2.cell? ⟨w.heap.size + 1, o, none⟩ = wr.cell? ⟨w.heap.size + 1, o, none⟩ := fun o => hb1.cell (p := ⟨w.heap.size + 1, o, none⟩) (by simp);
                  have k2 : ∀ o, w2.frozen? ⟨w.heap.size, o, none⟩ = wr.frozen? ⟨w.heap.size, o, none⟩ := fun o => hb1.frozen (p := ⟨w.heap.size, o, none⟩) (by simp; omega);
                  have k3 : ∀ o, w2.frozen? ⟨w.heap.size + 1, o, none⟩ = wr.frozen? ⟨w.heap.size + 1, o, none⟩ := fun o => hb1.frozen (p := ⟨w.heap.size + 1, o, none⟩) (by simp)))
      all_goals
        go_wp2_with fail
        refine bodyPost_ret (v := .agg #[.string (s ++ ⟨(be j n).toArray⟩), .int .i64 e]) (by simp [results, Tryd.results80, go_sem, k1, d0, d1]) rfl ⟨?_, ?_⟩
        · rw [append_bs, HM.out]
        · exact (((hI.out.below.drew.trans (hb1.mono (by omega))).setCell (Nat.le_refl _) _).setCell (Nat.le_succ _) _).setCell (Nat.le_succ _) _
theorem OutRaw_calls (s t : ByteArray) (e : Int) (hs : s.size ≤ 4000000000000000000) (ht : t.size ≤ 4000000000000000000) (w : World) :
    Calls Tryd.prog 114 #[.agg #[.string s, .int .i64 e], .string t] w fun e' w' => e' = .returned (.agg #[.string (bs (s.data.toList ++ t.data.toList)), .int .i64 e]) ∧ Below w.heap.size w w' := by
  have hcat : s.size + t.size ≤ 9223372036854775807 := by omega
  go_enter Tryd.func114, Tryd.ntmps114
  go_wp2_with fail
  refine bodyPost_ret (v := .agg #[.string (s ++ t), .int .i64 e]) (by simp [results, Tryd.results114, go_sem]) rfl ⟨by rw [append_bs], ?_⟩
  exact ((Below.refl _ _).alloc (Nat.le_refl _) _).alloc (by simp) _
theorem OutString_calls (s : ByteArray) (e : Int) (w : World) :
    Calls Tryd.prog 82 #[.agg #[.string s, .int .i64 e]] w fun e' w' => e' = .returned (.string s) ∧ Below w.heap.size w w' := by
  go_enter Tryd.func82, Tryd.ntmps82
  go_wp2_with fail
  go_ret
  exact ⟨rfl, (Below.refl _ _).alloc (Nat.le_refl _) _⟩

end Go.Proofs.YtopacbmdoognjaaDoor.Oct
