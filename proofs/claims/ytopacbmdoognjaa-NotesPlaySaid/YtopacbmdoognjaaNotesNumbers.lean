/- NotesNumbers: the walk. -/
import Derived.Test.YtopacbmdoognjaaNotesKept
namespace Go.Proofs.Ytopacbmdoognjaa.Not
open Go Go.RowKit Frame
/-- The notes that are taken. -/
def acc (l : List Nt) : List Nt := l.filter fun x => decide (x.text.size ≤ 64)
theorem acc_le (l : List Nt) : (acc l).length ≤ l.length := List.length_filter_le _ _
theorem acc_snoc (l : List Nt) (x : Nt) : acc (l ++ [x]) = if 64 < x.text.size then acc l else acc l ++ [x] := by
  unfold acc
  rw [List.filter_append]
  by_cases h : 64 < x.text.size
  · rw [if_pos h]; simp [h]
  · rw [if_neg h]; simp; omega
theorem addN_acc (l : List Nt) (x : Nt) (hl : l.length < 1000000) : addN (acc l).length (kept (acc l)) x = ((acc (l ++ [x])).length, kept (acc (l ++ [x])), if 64 < x.text.size then 5 else 0) := by
  rw [acc_snoc]
  by_cases h : 64 < x.text.size
  · rw [addN_long _ _ _ h, if_pos h, if_pos h]
  · rw [addN_kept _ _ h (by have := acc_le l; omega), if_neg h, if_neg h]
theorem NS.drew {v : Value} {l : List Nt} {w : World} (h : NS v l w) : NS v l w.drew := h
theorem NS.at {A : Option Addr} {c n : Nat} {l : List Nt} {w : World} (h : NS (.slice A n c) l w) (i : Nat) (hi : i < l.length) : ∃ b off, A = some ⟨b, off, none⟩ ∧ b < w.heap.size ∧ NtAt b (off + i * 3) (l.getD i default) w := by
  obtain ⟨A', c', hv, _, hn⟩ := h
  obtain ⟨b, off, hA, hb, hx⟩ := hn (by omega)
  simp only [Value.slice.injEq] at hv
  exact ⟨b, off, hv.1.trans hA, hb, hx i hi⟩
theorem Awake_calls (w : World) : Calls Try.prog 55 #[] w fun e w' => e = .returned (.bool true) ∧ Below w.heap.size w w' := awake_calls w
set_option maxRecDepth 100000 in
set_option maxHeartbeats 2000000 in
theorem NotesNumbers_walk (A : Option Addr) (c : Nat) (l : List Nt) (w : World) (hA : Nts A l w) (hl : l.length ≤ maxLen) (hx : ∀ x ∈ l, x.Ok) :
    Calls Try.prog 12 #[.slice A l.length c] w fun e w' => e = .returned (.bool true) ∧ Below w.heap.size w w' := by
  have HA := Lib.hid hA
  have HX := Lib.hid hx
  clear hA hx
  go_enter Try.func12, Try.ntmps12
  go_wp2_with fail
  refine (Awake_calls _).mono ?_
  rintro e w1 ⟨rfl, b1⟩
  have A1 := Lib.hid (HA.out.below b1)
  have B1 := Lib.hid b1
  clear b1 HA
  go_wp2_with fail
  refine (Light_calls A c l _ A1.out hl).mono ?_
  rintro e w2 ⟨rfl, b2⟩
  have A2 := Lib.hid (A1.out.below b2)
  have B2 := Lib.hid (bthen B1.out b2)
  clear b2 A1 B1
  rcases Bool.eq_false_or_eq_true (lightB l) with hL | hL
  · rw [hL]
    obtain ⟨h80, ht⟩ := light_iff hL
    have HT := Lib.hid ht
    clear ht hL hl
    go_wp2_with fail
    have hn0 := Lib.hid (Has.new w2 #[.int .u64 0, .slice none 0 0] 74)
    go_loopw [19] (fun i wr => ∃ (k : Nat) (v : Value), k ≤ l.length ∧ i = .int .i64 k ∧ Hid (Below w2.heap.size w2 wr) ∧ Hid (Has w2.heap.size #[.int .u64 ((acc (l.take k)).length : Int), v] 74 wr) ∧ Hid (NS v (kept (acc (l.take k))) wr) ∧ Hid (v.ownBlock ≠ some w2.heap.size)) (fun i _ => l.length - (intOf i).toNat)
    case atStart => exact ⟨0, .slice none 0 0, by omega, rfl, Lib.hid ((Below.refl _ _).alloc (Nat.le_refl _) _), hn0, Lib.hid (NS.nil _), Lib.hid (by simp [Value.ownBlock])⟩
    case round =>
      obtain ⟨k, v, hk, rfl, hB, hH, hS, hO⟩ := hrel
      clear hn0
      have n0 := hH.out.cell 0
      have n1 := hH.out.cell 1
      have nf := hH.out.frozen
      have hlt2 := hH.out.lt
      by_cases hlt : k < l.length
      · obtain ⟨b, off, rfl, hbl, hi⟩ := (A2.out.below hB.out) (by omega)
        obtain ⟨c0, c1, c2⟩ := hi k hlt
        clear hi
        have HK := Lib.hid (take_succ_getD l k hlt)
        have HM := Lib.hid (getD_mem l k hlt)
        have HE := Lib.hid (addN_acc (l.take k) (l.getD k default) (by simp; omega))
        rw [← HK.out] at HE
        have hle := Lib.hid (Nat.le_trans (acc_le (l.take k)) (by simp; omega : (l.take k).length ≤ 80))
        generalize l.getD k default = x at *
        have hH2 := Lib.hid (fun o => hH.out.alloc o)
        have hS2 := Lib.hid (fun o => hS.out.below ((Below.refl wr.heap.size wr).alloc (Nat.le_refl _) o))
        have hB2 := Lib.hid (fun o => hB.out.alloc (Nat.le_of_lt hlt2) o)
        have HC := Lib.hid (fun W h => Add_calls (acc (l.take k)).length (by have := hle.out; omega) (kept (acc (l.take k))) (kept_le _) v x (HX.out x HM.out).2 W h)
        rw [HE.out] at HC
        simp only [NV] at HC
        go_wp2_with fail
        refine (HC.out _ (hS2.out _)).mono ?_
        rintro e w4 ⟨v1, rfl, h1, b1, o1⟩
        have S1 := Lib.hid h1
        have O1 := Lib.hid (own_apart o1 hO.out (hH2.out _).lt)
        clear o1
        obtain ⟨A1, c1, rfl, -, -⟩ := h1
        have H1 := Lib.hid ((hH2.out _).below b1)
        have B1 := Lib.hid (bthen (hB2.out _) b1)
        clear b1 n0 n1 nf
        have n0 := H1.out.cell 0
        have n1 := H1.out.cell 1
        have nf := H1.out.frozen
        have hlt1 := H1.out.lt
        go_wp2_with fail
        refine ⟨⟨k + 1, _, by omega, by go_num, Lib.hid ((B1.out.setCell (p := ⟨w2.heap.size, 0, none⟩) (by simp) _).setCell (p := ⟨w2.heap.size, 1, none⟩) (by simp) _), Lib.hid ((H1.out.set (i := 0) _).set (i := 1) _), Lib.hid ((S1.out.set O1.out _).set O1.out _), O1⟩, by simp [intOf]; omega⟩
      · obtain rfl : k = l.length := by omega
        rw [List.take_length] at hH hS n0 n1
        have hxs := acc_le l
        generalize acc l = xs at *
        have hkl := kept_length xs
        have hkl2 := kept_le' xs
        have HAll := Lib.hid (fun W h => All_calls xs.length v (kept xs) (by omega) W h)
        have HTot := Lib.hid (fun W => Total_calls xs.length v W)
        have HGet := Lib.hid (fun k hk W h => Get_calls xs.length (by omega) (kept xs) (by omega) hkl2 v k hk W h)
        have HD := Lib.hid (kept_length xs)
        clear hkl
        go_wp2_with fail
        refine (HAll.out _ hS.out).mono ?_
        rintro e w4 ⟨v6, rfl, h6, b4⟩
        have S4 := Lib.hid (hS.out.below b4)
        have H4 := Lib.hid (hH.out.below b4)
        have B4 := Lib.hid (bthen hB.out b4)
        have K4 := Lib.hid h6
        obtain ⟨A6, c6, rfl, -, -⟩ := h6
        clear b4 n0 n1 nf hlt2 hS hH hB
        have n0 := H4.out.cell 0
        have n1 := H4.out.cell 1
        have hlt4 := H4.out.lt
        go_wp2_with fail
        refine (HTot.out _).mono ?_
        rintro e w5 ⟨rfl, b5⟩
        have S5 := Lib.hid (S4.out.below b5)
        have H5 := Lib.hid (H4.out.below b5)
        have B5 := Lib.hid (bthen B4.out b5)
        have K5 := Lib.hid (K4.out.below b5)
        clear b5 n0 n1 hlt4 S4 H4 B4 K4
        have hsub : IntKind.u64.wrap ((xs.length : Int) - ((kept xs).length : Int)) = ((xs.length - (kept xs).length : Nat) : Int) := by rw [IntKind.wrap_u64]; omega
        go_wp2_with fail
        go_loopw [8] (fun i wr' => ∃ k : Nat, k ≤ xs.length + 2 ∧ i = .int .u64 k ∧ Hid (Below w2.heap.size w2 wr') ∧ Hid (Has w2.heap.size #[.int .u64 (xs.length : Int), v] 74 wr') ∧ Hid (NS v (kept xs) wr') ∧ Hid (NS (.slice A6 (kept xs).length c6) (kept xs) wr')) (fun i _ => xs.length + 2 - (intOf i).toNat)
        case atStart => exact ⟨0, by omega, rfl, B5, H5, S5, K5⟩
        case round =>
          rename_i wr' _ _
          obtain ⟨k, hk, rfl, hB, hH, hS, hK⟩ := hrel
          clear B5 H5 S5 K5
          have n0 := hH.out.cell 0
          have n1 := hH.out.cell 1
          have hlt2 := hH.out.lt
          go_wp2_with fail
          refine (HTot.out _).mono ?_
          rintro e w6 ⟨rfl, b6⟩
          have S6 := Lib.hid (hS.out.below b6)
          have H6 := Lib.hid (hH.out.below b6)
          have B6 := Lib.hid (bthen hB.out b6)
          have K6 := Lib.hid (hK.out.below b6)
          clear b6 n0 n1 hlt2 hS hH hB hK
          have n0 := H6.out.cell 0
          have n1 := H6.out.cell 1
          have hlt6 := H6.out.lt
          have hw1 : IntKind.u64.wrap ((xs.length : Int) + 1) = (xs.length : Int) + 1 := by rw [IntKind.wrap_u64]; omega
          have hw2 : IntKind.u64.wrap ((k : Int) + 1) = (k : Int) + 1 := by rw [IntKind.wrap_u64]; omega
          by_cases hend : k = xs.length + 2
          · subst hend
            go_wp2_with fail
            go_ret
            exact ⟨rfl, bthen B2.out B6.out⟩
          · have HGk := Lib.hid (fun W h => HGet.out k (by omega) W h)
            by_cases hf : k ≤ xs.length - (kept xs).length
            · have HE := Lib.hid (show getN xs.length (kept xs) k = (Nt.zero, false) from if_pos (.inl hf))
              rw [HE.out] at HGk
              simp only [NV, Nt.zero] at HGk
              go_wp2_with fail
              refine (HGk.out _ S6.out).mono ?_
              rintro e w7 ⟨rfl, b7⟩
              have S7 := Lib.hid (fun o => (S6.out.below b7).below ((Below.refl w7.heap.size w7).alloc (Nat.le_refl _) o))
              have H7 := Lib.hid (fun o => (H6.out.below b7).alloc o)
              have B7 := Lib.hid (fun o => (bthen B6.out b7).alloc (Nat.le_of_lt (H6.out.below b7).lt) o)
              have K7 := Lib.hid (fun o => (K6.out.below b7).below ((Below.refl w7.heap.size w7).alloc (Nat.le_refl _) o))
              have hlt7 := (H6.out.below b7).lt
              have hkf : ((xs.length - (kept xs).length : Nat) : Int) < (k : Int) → False := by omega
              clear b7 n0 n1 hlt6
              go_wp2_with fail
              go_region
              go_wp2_with fail
              exact ⟨⟨k + 1, by omega, by go_num, Lib.hid (B7.out _).drew, Lib.hid (H7.out _), Lib.hid (NS.drew (S7.out _)), Lib.hid (NS.drew (K7.out _))⟩, by simp [intOf]; omega⟩
            · by_cases hto : xs.length < k
              · have HE := Lib.hid (show getN xs.length (kept xs) k = (Nt.zero, false) from if_pos (.inr hto))
                rw [HE.out] at HGk
                simp only [NV, Nt.zero] at HGk
                go_wp2_with fail
                refine (HGk.out _ S6.out).mono ?_
                rintro e w7 ⟨rfl, b7⟩
                have S7 := Lib.hid (fun o => (S6.out.below b7).below ((Below.refl w7.heap.size w7).alloc (Nat.le_refl _) o))
                have H7 := Lib.hid (fun o => (H6.out.below b7).alloc o)
                have B7 := Lib.hid (fun o => (bthen B6.out b7).alloc (Nat.le_of_lt (H6.out.below b7).lt) o)
                have K7 := Lib.hid (fun o => (K6.out.below b7).below ((Below.refl w7.heap.size w7).alloc (Nat.le_refl _) o))
                have hlt7 := (H6.out.below b7).lt
                clear n0 n1 hlt6
                have n0 := (H6.out.below b7).cell 0
                have n1 := (H6.out.below b7).cell 1
                have HTo := Lib.hid (fun W => HTot.out W)
                go_wp2_with fail
                refine (HTot.out _).mono ?_
                rintro e w8 ⟨rfl, b8⟩
                have S8 := Lib.hid ((S7.out _).below b8)
                have H8 := Lib.hid ((H7.out _).below b8)
                have B8 := Lib.hid (bthen (B7.out _) b8)
                have K8 := Lib.hid ((K7.out _).below b8)
                have C8 := Lib.hid ((Has.new w7 #[.int .u64 0, .int .u8 0, .string ⟨#[]⟩] 76).below b8)
                have x0 := C8.out.cell 0
                have x1 := C8.out.cell 1
                have x2 := C8.out.cell 2
                clear b8 b7 n0 n1 hlt7 S7 H7 B7 K7
                go_wp2_with fail
                rw [show decide (k ≤ xs.length) = false from decide_eq_false (by omega)]
                go_region
                go_wp2_with fail
                exact ⟨⟨k + 1, by omega, by go_num, Lib.hid B8.out.drew, Lib.hid H8.out, Lib.hid (NS.drew S8.out), Lib.hid (NS.drew K8.out)⟩, by simp [intOf]; omega⟩
              · have HE := Lib.hid (show getN xs.length (kept xs) k = ((kept xs).getD (k - (xs.length - (kept xs).length) - 1) default, true) from if_neg (by omega))
                rw [HE.out] at HGk
                have hs1 : IntKind.u64.wrap ((k : Int) - ((xs.length - (kept xs).length : Nat) : Int)) = ((k - (xs.length - (kept xs).length) : Nat) : Int) := by rw [IntKind.wrap_u64]; omega
                have hs2 : IntKind.u64.wrap (((k - (xs.length - (kept xs).length) : Nat) : Int) - 1) = ((k - (xs.length - (kept xs).length) - 1 : Nat) : Int) := by rw [IntKind.wrap_u64]; omega
                have hix : k - (xs.length - (kept xs).length) - 1 < (kept xs).length := by omega
                have HN := Lib.hid (fun W h => NS.at (A := A6) (c := c6) (n := (kept xs).length) (l := kept xs) (w := W) h _ hix)
                generalize (kept xs).getD (k - (xs.length - (kept xs).length) - 1) default = x at *
                simp only [NV] at HGk
                go_wp2_with fail
                refine (HGk.out _ S6.out).mono ?_
                rintro e w7 ⟨rfl, b7⟩
                have S7 := Lib.hid (fun o => (S6.out.below b7).below ((Below.refl w7.heap.size w7).alloc (Nat.le_refl _) o))
                have H7 := Lib.hid (fun o => (H6.out.below b7).alloc o)
                have B7 := Lib.hid (fun o => (bthen B6.out b7).alloc (Nat.le_of_lt (H6.out.below b7).lt) o)
                have K7 := Lib.hid (fun o => (K6.out.below b7).below ((Below.refl w7.heap.size w7).alloc (Nat.le_refl _) o))
                have hlt7 := (H6.out.below b7).lt
                clear n0 n1 hlt6
                have n0 := (H6.out.below b7).cell 0
                have n1 := (H6.out.below b7).cell 1
                go_wp2_with fail
                refine (HTot.out _).mono ?_
                rintro e w8 ⟨rfl, b8⟩
                have S8 := Lib.hid ((S7.out _).below b8)
                have H8 := Lib.hid ((H7.out _).below b8)
                have B8 := Lib.hid (bthen (B7.out _) b8)
                have K8 := Lib.hid ((K7.out _).below b8)
                have C8 := Lib.hid ((Has.new w7 #[.int .u64 x.tick, .int .u8 x.kind.toNat, .string x.text] 76).below b8)
                have x0 := C8.out.cell 0
                have x1 := C8.out.cell 1
                have x2 := C8.out.cell 2
                clear b8 b7 n0 n1 hlt7 S7 H7 B7 K7
                obtain ⟨b, off, rfl, hb, c0, c1, c2⟩ := HN.out _ K8.out
                go_wp2_with fail
                rw [show decide (k ≤ xs.length) = true from decide_eq_true (by omega)]
                go_region
                go_wp2_with fail
                exact ⟨⟨k + 1, by omega, by go_num, Lib.hid B8.out.drew, Lib.hid H8.out, Lib.hid (NS.drew S8.out), Lib.hid (NS.drew K8.out)⟩, by simp [intOf]; omega⟩
  · rw [hL]
    go_wp2_with fail
    go_ret
    exact ⟨rfl, B2.out⟩
end Go.Proofs.Ytopacbmdoognjaa.Not
