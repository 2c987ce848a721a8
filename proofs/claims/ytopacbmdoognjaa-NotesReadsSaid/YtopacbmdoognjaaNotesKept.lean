/- The notes that are kept, plainly; Light; the chapter's example. -/
import Derived.Test.YtopacbmdoognjaaNotesGet
import Derived.Test.YtopacbmdoognjaaFrmB
namespace Go.Proofs.Ytopacbmdoognjaa.Not
open Go Go.RowKit Frame
/-- The last 32. -/
def kept (xs : List Nt) : List Nt := xs.drop (xs.length - 32)
theorem kept_nil : kept [] = [] := rfl
theorem kept_length (xs : List Nt) : (kept xs).length = min xs.length 32 := by simp [kept]; omega
theorem kept_le (xs : List Nt) : (kept xs).length ≤ 32 := by rw [kept_length]; omega
theorem kept_le' (xs : List Nt) : (kept xs).length ≤ xs.length := by rw [kept_length]; omega
theorem addN_long (tot : Nat) (l : List Nt) (x : Nt) (h : 64 < x.text.size) : addN tot l x = (tot, l, 5) := if_pos h
theorem addN_kept (xs : List Nt) (x : Nt) (h : ¬ 64 < x.text.size) (hl : xs.length < 1000000) : addN xs.length (kept xs) x = ((xs ++ [x]).length, kept (xs ++ [x]), 0) := by
  unfold addN
  rw [if_neg h, if_neg (by omega), kept_length]
  have e : (kept xs ++ [x]).drop (min xs.length 32 + 1 - 32) = kept (xs ++ [x]) := by
    unfold kept
    rw [← List.drop_append_of_le_length (by omega : xs.length - 32 ≤ xs.length), List.drop_drop, List.length_append]
    congr 1
    simp
    omega
  rw [e]
  simp
theorem kept_getD (xs : List Nt) (i : Nat) : (kept xs).getD i default = xs.getD (xs.length - (kept xs).length + i) default := by
  rw [kept_length] at *
  unfold kept
  simp only [List.getD_eq_getElem?_getD, List.getElem?_drop]
  congr 2
  omega
def lightB (l : List Nt) : Bool := (l.all fun x => decide (x.text.size ≤ 80)) && decide (l.length ≤ 80)
theorem light_iff {l : List Nt} (h : lightB l = true) : l.length ≤ 80 ∧ ∀ x ∈ l, x.text.size ≤ 80 := by
  unfold lightB at h
  simp at h
  exact ⟨h.2, h.1⟩
set_option maxRecDepth 100000 in
set_option maxHeartbeats 1000000 in
theorem Light_calls (A : Option Addr) (c : Nat) (l : List Nt) (w : World) (hA : Nts A l w) (hl : l.length ≤ maxLen) :
    Calls Try.prog 56 #[.slice A l.length c] w fun e w' => e = .returned (.bool (lightB l)) ∧ Below w.heap.size w w' := by
  unfold maxLen at hl
  have HA := Lib.hid hA
  clear hA
  go_enter Try.func56, Try.ntmps56
  go_wp2
  go_loopw [7] (fun i wr => ∃ k : Nat, k ≤ l.length ∧ i = .int .i64 k ∧ Hid (Below w.heap.size w wr) ∧ Hid ((l.take k).all (fun x => decide (x.text.size ≤ 80)) = true)) (fun i _ => l.length - (intOf i).toNat)
  case atStart => exact ⟨0, by omega, rfl, Lib.hid (Below.refl _ _), rfl⟩
  case round =>
    obtain ⟨k, hk, rfl, hB, hP⟩ := hrel
    by_cases hlt : k < l.length
    · obtain ⟨b, off, rfl, hbl, hi⟩ := (HA.out.below hB.out) (by omega)
      obtain ⟨c0, c1, c2⟩ := hi k hlt
      clear hi
      have HT := Lib.hid (take_succ_getD l k hlt)
      have HM := Lib.hid (getD_mem l k hlt)
      generalize l.getD k default = x at *
      by_cases hx : 80 < x.text.size
      · have HE := Lib.hid (show lightB l = false by
          unfold lightB
          rw [Bool.and_eq_false_iff]
          left
          rw [List.all_eq_false]
          exact ⟨x, HM.out, by simp; omega⟩)
        go_wp2
        go_ret
        rw [HE.out]
        exact ⟨rfl, hB.out.alloc hB.out.size _⟩
      · go_wp2
        refine ⟨⟨k + 1, by omega, by go_num, Lib.hid (hB.out.alloc hB.out.size _), Lib.hid ?_⟩, by simp [intOf]; omega⟩
        rw [HT.out, List.all_append, hP.out]
        simp; omega
    · obtain rfl : k = l.length := by omega
      have HE := Lib.hid (show lightB l = decide (l.length ≤ 80) by
        have := hP.out
        rw [List.take_length] at this
        unfold lightB
        rw [this, Bool.true_and])
      go_wp2
      go_ret
      rw [HE.out]
      refine ⟨?_, hB.out⟩
      congr 2
      simp; omega
/-- The example's notes. -/
def ex (k : Nat) : List Nt := (List.range k).map fun i => ⟨0, UInt8.ofNat i, ⟨#[]⟩⟩
theorem ex_succ (k : Nat) : ex (k + 1) = ex k ++ [⟨0, UInt8.ofNat k, ⟨#[]⟩⟩] := by simp [ex, List.range_succ]
theorem ex_length (k : Nat) : (ex k).length = k := by simp [ex]
theorem ex_9 : getN 40 (kept (ex 40)) 9 = (⟨0, 8, ⟨#[]⟩⟩, true) := by
  unfold getN
  rw [kept_length, ex_length, if_neg (by decide), kept_getD, kept_length, ex_length]
  rfl
theorem ex_8 : getN 40 (kept (ex 40)) 8 = (Nt.zero, false) := by
  unfold getN
  rw [kept_length, ex_length, if_pos (by decide)]
theorem Awake1_calls (w : World) : Calls Try.prog 84 #[] w fun e w' => e = .returned (.bool true) ∧ Below w.heap.size w w' := by
  go_enter Try.func84, Try.ntmps84
  go_wp2_with fail
  refine (Oct.awake_calls _).mono ?_
  rintro e w1 ⟨rfl, b1⟩
  go_wp2_with fail
  go_ret
  exact ⟨rfl, b1⟩
set_option maxRecDepth 100000 in
set_option maxHeartbeats 1000000 in
theorem awake_calls (w : World) : Calls Try.prog 55 #[] w fun e w' => e = .returned (.bool true) ∧ Below w.heap.size w w' := by
  go_enter Try.func55, Try.ntmps55
  go_wp2_with fail
  go_loopw [7] (fun i wr => ∃ (k : Nat) (v : Value), k ≤ 40 ∧ i = .int .i64 k ∧ Hid (Below w.heap.size w wr) ∧ Hid (Has w.heap.size #[.int .u64 (k : Int), v] 74 wr) ∧ Hid (NS v (kept (ex k)) wr) ∧ Hid (v.ownBlock ≠ some w.heap.size)) (fun i _ => 40 - (intOf i).toNat)
  case atStart => exact ⟨0, .slice none 0 0, by omega, rfl, Lib.hid ((Below.refl _ _).alloc (Nat.le_refl _) _), Lib.hid (Has.new w _ _), Lib.hid (NS.nil _), Lib.hid (by simp [Value.ownBlock])⟩
  case round =>
    obtain ⟨k, v, hk, rfl, hB, hH, hS, hO⟩ := hrel
    have n0 := hH.out.cell 0
    have n1 := hH.out.cell 1
    have nf := hH.out.frozen
    by_cases hlt : k < 40
    · have HC := Lib.hid (Add_calls k (by omega) (kept (ex k)) (kept_le _) v ⟨0, UInt8.ofNat k, ⟨#[]⟩⟩ (show (0 : Nat) ≤ maxLen by unfold maxLen; omega) wr hS.out)
      have HE := Lib.hid (addN_kept (ex k) ⟨0, UInt8.ofNat k, ⟨#[]⟩⟩ (show ¬ 64 < (0 : Nat) by omega) (by rw [ex_length]; omega))
      rw [← ex_succ, ex_length, ex_length] at HE
      have h8 : (UInt8.ofNat k).toNat = k := by rw [UInt8.toNat_ofNat']; omega
      rw [HE.out] at HC
      simp only [NV, h8] at HC
      go_wp2_with fail
      refine HC.out.mono ?_
      rintro e w1 ⟨v1, rfl, h1, b1, o1⟩
      have S1 := Lib.hid h1
      have O1 := Lib.hid (own_apart o1 hO.out hH.out.lt)
      clear o1
      obtain ⟨A1, c1, rfl, -, -⟩ := h1
      have H1 := Lib.hid (hH.out.below b1)
      have B1 := Lib.hid (bthen hB.out b1)
      clear b1 n0 n1 nf
      have n0 := H1.out.cell 0
      have n1 := H1.out.cell 1
      have nf := H1.out.frozen
      have hlt1 := H1.out.lt
      go_wp2_with fail
      refine ⟨⟨k + 1, _, by omega, by go_num, Lib.hid ((B1.out.setCell (p := ⟨w.heap.size, 0, none⟩) (by simp) _).setCell (p := ⟨w.heap.size, 1, none⟩) (by simp) _), Lib.hid ((H1.out.set (i := 0) _).set (i := 1) _), Lib.hid ((S1.out.set O1.out _).set O1.out _), O1⟩, by simp [intOf]; omega⟩
    · obtain rfl : k = 40 := by omega
      have HG9 := Lib.hid (fun W h => Get_calls 40 (by omega) (kept (ex 40)) (by rw [kept_length]; omega) (by rw [kept_length, ex_length]; omega) v 9 (by omega) W h)
      have HG8 := Lib.hid (fun W h => Get_calls 40 (by omega) (kept (ex 40)) (by rw [kept_length]; omega) (by rw [kept_length, ex_length]; omega) v 8 (by omega) W h)
      rw [ex_9] at HG9
      rw [ex_8] at HG8
      simp only [NV, Nt.zero] at HG9 HG8
      go_wp2_with fail
      refine (HG9.out _ hS.out).mono ?_
      rintro e w1 ⟨rfl, b1⟩
      have S1 := Lib.hid (hS.out.below b1)
      have H1 := Lib.hid (hH.out.below b1)
      have B1 := Lib.hid (bthen hB.out b1)
      clear b1 n0 n1 nf
      have n0 := H1.out.cell 0
      have n1 := H1.out.cell 1
      have hlt1 := H1.out.lt
      have H1a := Lib.hid (fun o => H1.out.alloc o)
      have S1a := Lib.hid (fun o => S1.out.below ((Below.refl w1.heap.size w1).alloc (Nat.le_refl _) o))
      have B1a := Lib.hid (fun o => (B1.out.alloc (Nat.le_of_lt hlt1) o))
      go_wp2_with fail
      generalize hw2 : w1.alloc _ = w2
      have H2 := Lib.hid (show Has w.heap.size #[.int .u64 40, v] 74 w2 by rw [← hw2]; exact H1a.out _)
      have S2 := Lib.hid (show NS v (kept (ex 40)) w2 by rw [← hw2]; exact S1a.out _)
      have B2 := Lib.hid (show Below w.heap.size w w2 by rw [← hw2]; exact B1a.out _)
      have C2 := Lib.hid (show Has w1.heap.size #[.int .u64 0, .int .u8 8, .string ⟨#[]⟩] 76 w2 by rw [← hw2]; exact Has.new _ _ _)
      generalize w1.heap.size = p at *
      clear hw2 H1 S1 B1 n0 n1 H1a S1a B1a hlt1
      refine (HG8.out _ S2.out).mono ?_
      rintro e w3 ⟨rfl, b1⟩
      have S3 := Lib.hid (S2.out.below b1)
      have H3 := Lib.hid (H2.out.below b1)
      have C3 := Lib.hid (C2.out.below b1)
      have B3 := Lib.hid (bthen B2.out b1)
      clear b1 H2 S2 B2 C2
      have n0 := H3.out.cell 0
      have n1 := H3.out.cell 1
      have p1 := C3.out.cell 1
      have hlt1 := H3.out.lt
      have hlt2 := C3.out.lt
      have H3a := Lib.hid (fun o => H3.out.alloc o)
      have C3a := Lib.hid (fun o => C3.out.alloc o)
      have B3a := Lib.hid (fun o => (B3.out.alloc (Nat.le_of_lt hlt1) o))
      go_wp2_with fail
      refine (Awake1_calls _).mono ?_
      rintro e w4 ⟨rfl, b4⟩
      have H4 := Lib.hid ((H3a.out _).below b4)
      have C4 := Lib.hid ((C3a.out _).below b4)
      have B4 := Lib.hid (bthen (B3a.out _) b4)
      clear b4 H3 C3 B3 H3a C3a B3a n0 n1 p1 hlt1 hlt2
      have n0 := H4.out.cell 0
      have n1 := H4.out.cell 1
      have p1 := C4.out.cell 1
      have HT := Lib.hid (fun W => Total_calls 40 v W)
      go_wp2_with fail
      refine (HT.out _).mono ?_
      rintro e w5 ⟨rfl, b5⟩
      have B5 := Lib.hid (bthen B4.out b5)
      go_wp2_with fail
      go_ret
      exact ⟨rfl, B5.out⟩
end Go.Proofs.Ytopacbmdoognjaa.Not
