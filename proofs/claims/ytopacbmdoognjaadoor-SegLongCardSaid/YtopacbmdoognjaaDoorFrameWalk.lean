/- The walk of frame.Parse. -/
import Derived.Test.YtopacbmdoognjaaDoorPlain
import Derived.Test.YtopacbmdoognjaaDoorOctNum
import Derived.Test.YtopacbmdoognjaaDoorCrcLaws
namespace Go.Proofs.YtopacbmdoognjaaDoor.Frm
open Go Go.RowKit Frame Oct
/-- A frame as a value, as cells. -/
def FV (f : Fm) : Value := .agg #[.int .u8 f.ch.toNat, .int .u8 f.kd.toNat, .string (bs f.body)]
theorem num1_lt (q : St) : (inum q 1).1 < 256 := by
  unfold inum
  have h := num_lt (raw q (min 1 8)).1
  have h1 := raw_length q (min 1 8)
  have h2 : (raw q (min 1 8)).1.length ≤ 1 := by omega
  have h3 : 256 ^ (raw q (min 1 8)).1.length ≤ 256 ^ 1 := Nat.pow_le_pow_right (by decide) h2
  simp only
  omega
theorem num4_lt (q : St) : (inum q 4).1 < 4294967296 := by
  unfold inum
  have h := num_lt (raw q (min 4 8)).1
  have h1 := raw_length q (min 4 8)
  have h2 : (raw q (min 4 8)).1.length ≤ 4 := by omega
  have h3 : 256 ^ (raw q (min 4 8)).1.length ≤ 256 ^ 4 := Nat.pow_le_pow_right (by decide) h2
  have : (256 : Nat) ^ 4 = 4294967296 := by decide
  simp only
  omega
theorem itext_le (q : St) (m : Int) : (itext q m).2.1.length ≤ q.1.length ∧ (itext q m).1.length ≤ q.1.length := by
  have h0 := inum_le q 2
  have h1 : (if m < ((inum q 2).1 : Int) then fail (inum q 2).2 5 else (inum q 2).2).1.length ≤ q.1.length := by
    split
    · have := fail_le (inum q 2).2 5; omega
    · exact h0
  unfold itext
  generalize (if m < ((inum q 2).1 : Int) then fail (inum q 2).2 5 else (inum q 2).2) = p at *
  have h2 := raw_le p ((inum q 2).1 : Int)
  refine ⟨by omega, ?_⟩
  unfold raw
  split
  · simp
  · split
    · simp
    · simp; omega
theorem raw_cons (q : St) (n : Int) (h : (raw q n).2.2 = 0) : q.2 = 0 ∧ (raw q n).1.length = n.toNat ∧ n.toNat + (raw q n).2.1.length = q.1.length := by
  unfold raw at h ⊢
  split at h
  · rename_i hc
    rw [if_pos hc]
    simp only at h
    have h0 : n ≤ 0 := by
      rcases hc with hc | hc
      · exact absurd h hc
      · exact hc
    exact ⟨h, by simp; omega, by simp; omega⟩
  · rename_i hc
    have hq : q.2 = 0 := by
      rcases Int.decEq q.2 0 with h1 | h1
      · exact absurd (.inl h1) hc
      · exact h1
    split at h
    · rename_i hs
      simp [fail, hq] at h
    · rename_i hs
      rw [if_neg hc, if_neg hs]
      exact ⟨hq, by simp; omega, by simp; omega⟩
theorem inum_cons (q : St) (n : Nat) (h8 : n ≤ 8) (h : (inum q n).2.2 = 0) : q.2 = 0 ∧ n + (inum q n).2.1.length = q.1.length := by
  unfold inum at h ⊢
  rw [show min (n : Int) 8 = (n : Int) by omega] at h ⊢
  have := raw_cons q n h
  exact ⟨this.1, by simpa using this.2.2⟩
theorem itext_cons (q : St) (m : Int) (h : (itext q m).2.2 = 0) : q.2 = 0 ∧ 2 + (itext q m).1.length + (itext q m).2.1.length = q.1.length := by
  unfold itext at h ⊢
  have h1 := raw_cons _ _ h
  split at h1
  · rename_i hm
    have h2 := h1.1
    unfold fail at h2
    split at h2
    · simp at h2
    · rename_i hc
      exact absurd ⟨h2, by decide⟩ hc
  · rename_i hm
    have h3 := inum_cons q 2 (by decide) h1.1
    rw [if_neg hm]
    refine ⟨h3.1, ?_⟩
    have h4 := h1.2
    have h5 := h3.2
    rw [h4.1]
    simp only [Int.toNat_natCast, show ((2 : Nat) : Int) = 2 from rfl] at *
    omega
theorem ok_len (l : List UInt8) (h : (r5 l).2.2 = 0) : (r3 l).1.length + 9 ≤ l.length := by
  have h5 := inum_cons (r4 l).2 1 (by decide) h
  have h4 := inum_cons (r3 l).2 4 (by decide) h5.1
  have h3 := itext_cons (r2 l).2 2048 h4.1
  have h2 := inum_cons (r1 l).2 1 (by decide) h3.1
  have h1 := inum_cons (l, 0) 1 (by decide) h2.1
  have e4 : (inum (r3 l).2 (4 : Nat)).2 = (r4 l).2 := rfl
  have e3 : itext (r2 l).2 2048 = r3 l := rfl
  have e2 : (inum (r1 l).2 (1 : Nat)).2 = (r2 l).2 := rfl
  have e1 : (inum (l, 0) (1 : Nat)).2 = (r1 l).2 := rfl
  rw [e4] at h4
  rw [e3] at h3
  rw [e2] at h2
  rw [e1] at h1
  have g1 := h1.2
  have g2 := h2.2
  have g3 := h3.2
  have g4 := h4.2
  have g5 := h5.2
  simp only at g1
  omega
theorem below3 {B b : Nat} {a w : World} (h : Below B a w) (hb : B ≤ b) (v0 v1 v2 : Value) : Below B a (((w.setCell ⟨b, 0, none⟩ v0).setCell ⟨b, 1, none⟩ v1).setCell ⟨b, 2, none⟩ v2) :=
  ((h.setCell (p := ⟨b, 0, none⟩) hb v0).setCell (p := ⟨b, 1, none⟩) hb v1).setCell (p := ⟨b, 2, none⟩) hb v2
theorem Sum_one (b : Nat) (l : List UInt8) (hl : l.length ≤ maxLen) (w : World) (hT : Crc.Tab w) (h0 : w.cell? ⟨b, 0, none⟩ = some (.string (bs l))) :
    Calls Tryd.prog 23 #[.slice (some ⟨b, 0, none⟩) 1 1] w fun e w' => e = .returned (.int .u32 ((Crc.sum l : Nat) : Int)) ∧ w = w' := by
  have h := Crc.Sum_calls (some ⟨b, 0, none⟩) 1 [bs l] (by simp [maxLen]) (fun s hs => by simp only [List.mem_singleton] at hs; subst hs; rw [bs_size]; exact hl) w hT (fun _ => ⟨b, 0, rfl, fun i hi => by
    match i, hi with
    | 0, _ => simpa using h0⟩)
  rw [show Crc.cat [bs l] = l by simp [Crc.cat, bs]] at h
  exact h
def zeroF : Array Value := #[.int .u8 0, .int .u8 0, .string ⟨#[]⟩]
set_option maxRecDepth 100000 in
set_option maxHeartbeats 4000000 in
theorem Parse_calls (l : List UInt8) (hl : l.length ≤ 1000000000) (w : World) (hT : Crc.Tab w) :
    Calls Tryd.prog 28 #[.string (bs l)] w fun e w' => e = .returned (.tuple #[FV (parse l).1, .int .i64 (parse l).2.1, .int .i64 (parse l).2.2]) ∧ Below w.heap.size w w' := by
  have hml : l.length ≤ maxLen := by unfold maxLen; omega
  have HP := Lib.hid (prog_eq l)
  have hB0 : Below w.heap.size w (w.alloc (.cells zeroF 35)) := (Below.refl _ _).alloc (Nat.le_refl _) _
  have HZ := Lib.hid (Has.new w zeroF 35)
  have HT0 := Lib.hid (hT.below hB0)
  have HB0 := Lib.hid hB0
  clear hB0 hT
  unfold zeroF at HZ HT0 HB0
  go_enter Tryd.func28, Tryd.ntmps28
  go_wp2_with fail
  refine (New_calls _ _).mono ?_
  rintro e w1 ⟨rfl, rfl⟩
  generalize w.alloc (.cells #[.int .u8 0, .int .u8 0, .string ⟨#[]⟩] 35) = w0 at *
  have hzw := HZ.out.lt
  have HA := Lib.hid (show At w0.heap.size (l, 0) (w0.alloc (.cells #[.string (bs l), .int .i64 0] 145)) from Has.new w0 _ _)
  have HB1 := Lib.hid ((Below.refl w0.heap.size w0).alloc (Nat.le_refl _) (.cells #[.string (bs l), .int .i64 0] 145))
  go_wp2_with fail
  refine (Num_calls w0.heap.size (l, 0) 1 hml _ HA.out).mono ?_
  rintro e w2 ⟨rfl, h2, o2⟩
  have HB2 := Lib.hid (Only.to_below HB1.out o2 (Nat.le_refl _) (by simp))
  rw [show inum (l, 0) 1 = r1 l from rfl] at h2 ⊢
  have H2 := Lib.hid h2
  have hb2 : w0.heap.size < w2.heap.size := h2.lt
  have l1 : (r1 l).1 < 256 := num1_lt _
  have k1 : (r1 l).2.1.length ≤ l.length := inum_le (l, 0) 1
  clear h2 o2
  go_wp2_with fail
  refine (Num_calls w0.heap.size (r1 l).2 1 (by unfold maxLen; omega) _ H2.out).mono ?_
  rintro e w3 ⟨rfl, h3, o3⟩
  have HB3 := Lib.hid (Only.to_below HB2.out o3 (Nat.le_refl _) (Nat.le_of_lt hb2))
  rw [show inum (r1 l).2 1 = r2 l from rfl] at h3 ⊢
  have H3 := Lib.hid h3
  have hb3 : w0.heap.size < w3.heap.size := h3.lt
  have l2 : (r2 l).1 < 256 := num1_lt _
  have k2 : (r2 l).2.1.length ≤ l.length := by have := inum_le (r1 l).2 1; unfold r2; omega
  clear h3 o3
  go_wp2_with fail
  have HF3 := Lib.hid (Has.new w3 #[.int .u8 ((r1 l).1 : Int), .int .u8 ((r2 l).1 : Int), .string ⟨#[]⟩] 35)
  have HA3 := Lib.hid (show At w0.heap.size (r2 l).2 (w3.alloc (.cells #[.int .u8 ((r1 l).1 : Int), .int .u8 ((r2 l).1 : Int), .string ⟨#[]⟩] 35)) from Has.alloc H3.out _)
  have HB4 := Lib.hid (HB3.out.alloc (Nat.le_of_lt hb3) (.cells #[.int .u8 ((r1 l).1 : Int), .int .u8 ((r2 l).1 : Int), .string ⟨#[]⟩] 35))
  refine (Text_calls w0.heap.size (r2 l).2 2048 (by unfold maxLen; omega) _ HA3.out).mono ?_
  rintro e w4 ⟨rfl, h4, o4⟩
  have hne : w3.heap.size ≠ w0.heap.size := by omega
  have HB5 := Lib.hid (Only.to_below HB4.out o4 (Nat.le_refl _) (by simp; omega))
  have HF4 := Lib.hid (HF3.out.only o4 hne)
  rw [show itext (r2 l).2 2048 = r3 l from rfl] at h4 ⊢
  have H4 := Lib.hid h4
  have k3 : (r3 l).2.1.length ≤ l.length ∧ (r3 l).1.length ≤ l.length := by have := itext_le (r2 l).2 2048; unfold r3; omega
  have f4 := HF4.out.frozen 2
  have y4 := HF4.out.cell 2
  have hb4 := HF4.out.lt
  clear h4 o4
  go_wp2_with fail
  have HF5 := Lib.hid (show Has w3.heap.size #[.int .u8 ((r1 l).1 : Int), .int .u8 ((r2 l).1 : Int), .string (bs (r3 l).1)] 35 (w4.setCell ⟨w3.heap.size, 2, none⟩ (.string (bs (r3 l).1))) by
    have := HF4.out.set (i := 2) (.string (bs (r3 l).1))
    simpa using this)
  have HA5 := Lib.hid (show At w0.heap.size (r3 l).2 (w4.setCell ⟨w3.heap.size, 2, none⟩ (.string (bs (r3 l).1))) from Has.set_other H4.out hne _)
  have HB6 := Lib.hid (HB5.out.setCell (p := ⟨w3.heap.size, 2, none⟩) (Nat.le_of_lt hb3) (.string (bs (r3 l).1)))
  clear f4 y4
  refine (Num_calls w0.heap.size (r3 l).2 4 (by unfold maxLen; omega) _ HA5.out).mono ?_
  rintro e w5 ⟨rfl, h5, o5⟩
  have HF6 := Lib.hid (HF5.out.only o5 hne)
  have HB7 := Lib.hid (Only.to_below HB6.out o5 (Nat.le_refl _) (by simp [World.setCell]; omega))
  rw [show inum (r3 l).2 4 = r4 l from rfl] at h5 ⊢
  have H5 := Lib.hid h5
  have l4 : (r4 l).1 < 4294967296 := num4_lt _
  have k4 : (r4 l).2.1.length ≤ l.length := by have := inum_le (r3 l).2 4; unfold r4; omega
  have hb5 := HF6.out.lt
  clear h5 o5
  go_wp2_with fail
  refine (Num_calls w0.heap.size (r4 l).2 1 (by unfold maxLen; omega) _ H5.out).mono ?_
  rintro e w6 ⟨rfl, h6, o6⟩
  have HF7 := Lib.hid (HF6.out.only o6 hne)
  have HB8 := Lib.hid (Only.to_below HB7.out o6 (Nat.le_refl _) (by omega))
  rw [show inum (r4 l).2 1 = r5 l from rfl] at h6 ⊢
  have H6 := Lib.hid h6
  have l5 : (r5 l).1 < 256 := num1_lt _
  have hb6 := HF7.out.lt
  clear h6 o6
  go_wp2_with fail
  refine (Err_calls w0.heap.size (r5 l).2 _ H6.out).mono ?_
  rintro e w7 ⟨rfl, rfl⟩
  have HZ7 := Lib.hid (HZ.out.below HB8.out)
  have HT7 := Lib.hid (HT0.out.below HB8.out)
  have HB9 := Lib.hid (bthen HB0.out HB8.out)
  have z0 := HZ7.out.cell 0; have z1 := HZ7.out.cell 1; have z2 := HZ7.out.cell 2; have zf := HZ7.out.frozen; have hzw6 := HZ7.out.lt
  have y0 := HF7.out.cell 0; have y1 := HF7.out.cell 1; have y2 := HF7.out.cell 2
  have hp : prog l = if (r5 l).2.2 ≠ 0 then (zero, 0, (r5 l).2.2) else if (r5 l).1 ≠ 206 then (zero, 0, 4) else if Crc.sum (l.take (4 + (r3 l).1.length)) ≠ (r4 l).1 then (zero, 0, 14)
    else (⟨UInt8.ofNat (r1 l).1, UInt8.ofNat (r2 l).1, (r3 l).1⟩, 4 + (r3 l).1.length + 5, 0) := rfl
  by_cases c5 : (r5 l).2.2 ≠ 0
  · rw [if_pos c5] at hp
    have HE := Lib.hid (HP.out.symm.trans hp)
    have c5' : ((r5 l).2.2 != 0) = true := by simpa using c5
    clear hp c5
    generalize (r5 l).2.2 = c at *
    go_wp2_with fail
    refine bodyPost_ret (v := .tuple #[FV zero, .int .i64 0, .int .i64 c]) (by simp [results, Tryd.results28, go_sem, FV, zero, z0, z1, z2, bs]) rfl ?_
    rw [HE.out]
    exact ⟨rfl, below3 HB9.out (Nat.le_refl _) _ _ _⟩
  · rw [if_neg c5] at hp
    have c50 : (r5 l).2.2 = 0 := by simpa using c5
    have hol := ok_len l c50
    by_cases c6 : (r5 l).1 ≠ 206
    · rw [if_pos c6] at hp
      have HE := Lib.hid (HP.out.symm.trans hp)
      have c6' : (((r5 l).1 : Int) != 206) = true := by simp; omega
      clear hp c5 c6
      have hz : (bs (r3 l).1).size = (r3 l).1.length := bs_size _
      go_wp2_with fail
      refine bodyPost_ret (v := .tuple #[FV zero, .int .i64 0, .int .i64 4]) (by simp [results, Tryd.results28, go_sem, FV, zero, z0, z1, z2, bs]) rfl ?_
      rw [HE.out]
      exact ⟨rfl, below3 HB9.out (Nat.le_refl _) _ _ _⟩
    · rw [if_neg c6] at hp
      have c6' : (((r5 l).1 : Int) != 206) = false := by simp; omega
      have hz : (bs (r3 l).1).size = (r3 l).1.length := bs_size _
      have hzl : (bs l).size = l.length := bs_size _
      have hext : (bs l).extract 0 (4 + (r3 l).1.length) = bs (l.take (4 + (r3 l).1.length)) := extract_to _ _
      have HPP := Lib.hid hp
      clear c6 c5 hp
      have g4 : (4 + ((r3 l).1.length : Int)).toNat = 4 + (r3 l).1.length := by omega
      go_wp2_with fail
      have hB10 : Below w6.heap.size w6 (w6.alloc (.cells #[.string (bs (l.take (4 + (r3 l).1.length)))] 9)) := (Below.refl _ _).alloc (Nat.le_refl _) _
      refine (Sum_one w6.heap.size (l.take (4 + (r3 l).1.length)) (by simp only [List.length_take]; unfold maxLen; omega) _ (HT7.out.below hB10) ((Has.new w6 _ _).cell 0)).mono ?_
      rintro e w7 ⟨rfl, rfl⟩
      have HBF := Lib.hid (bthen HB9.out hB10)
      have HZ8 := Lib.hid (HZ7.out.below hB10)
      have HF8 := Lib.hid (HF7.out.below hB10)
      have hsl := Crc.sum_lt (l.take (4 + (r3 l).1.length))
      clear hB10 hext z0 z1 z2 zf y0 y1 y2 hzw6
      generalize w6.alloc (.cells #[.string (bs (l.take (4 + (r3 l).1.length)))] 9) = w7 at *
      have z0 := HZ8.out.cell 0; have z1 := HZ8.out.cell 1; have z2 := HZ8.out.cell 2; have zf := HZ8.out.frozen
      have y0 := HF8.out.cell 0; have y1 := HF8.out.cell 1; have y2 := HF8.out.cell 2
      generalize Crc.sum (l.take (4 + (r3 l).1.length)) = sm at *
      by_cases cs : sm ≠ (r4 l).1
      · have HE := Lib.hid (HP.out.symm.trans (HPP.out.trans (if_pos cs)))
        have cs' : ((sm : Int) != ((r4 l).1 : Int)) = true := by simp; omega
        clear cs
        go_wp2_with fail
        refine bodyPost_ret (v := .tuple #[FV zero, .int .i64 0, .int .i64 14]) (by simp [results, Tryd.results28, go_sem, FV, zero, z0, z1, z2, bs]) rfl ?_
        rw [HE.out]
        exact ⟨rfl, below3 HBF.out (Nat.le_refl _) _ _ _⟩
      · have HE := Lib.hid (HP.out.symm.trans (HPP.out.trans (if_neg cs)))
        have cs' : ((sm : Int) != ((r4 l).1 : Int)) = false := by simp; omega
        have HU1 := Lib.hid (show (UInt8.ofNat (r1 l).1).toNat = (r1 l).1 by rw [UInt8.toNat_ofNat']; omega)
        have HU2 := Lib.hid (show (UInt8.ofNat (r2 l).1).toNat = (r2 l).1 by rw [UInt8.toNat_ofNat']; omega)
        clear cs
        go_wp2_with fail
        refine bodyPost_ret (v := .tuple #[FV ⟨UInt8.ofNat (r1 l).1, UInt8.ofNat (r2 l).1, (r3 l).1⟩, .int .i64 ((4 + (r3 l).1.length + 5 : Nat) : Int), .int .i64 0]) (by simp [results, Tryd.results28, go_sem, FV, z0, z1, z2, HU1.out, HU2.out]) rfl ?_
        rw [HE.out]
        exact ⟨rfl, below3 HBF.out (Nat.le_refl _) _ _ _⟩
end Go.Proofs.YtopacbmdoognjaaDoor.Frm
