/- The walk of OctetWrites. -/
import Derived.Test.YtopacbmdoognjaaOctWritten
namespace Go.Proofs.Ytopacbmdoognjaa.Oct
open Go Go.RowKit Frame
theorem str_grow (l : List Item) (x : Item) (k : Nat) (hT : l.take (k + 1) = l.take k ++ [x]) (v : List UInt8) (h : item x = v) : bs (items (l.take k)) ++ bs v = bs (items (l.take (k + 1))) := by
  rw [bs_append, hT, items_snoc, h]
theorem one_more (s : ByteArray) (hs : s.size ≤ 4000) (w : World) : Calls Try.prog 21 #[.agg #[.string s, .int .i64 0], .int .u64 1, .int .i64 1] w fun e' w' => e' = .returned (.agg #[.string (s ++ ⟨#[1]⟩), .int .i64 0]) ∧ Below w.heap.size w w' := by
  have h := OutNum_calls s 0 1 1 (by omega) (by omega) w
  rw [show bs (s.data.toList ++ be (wid 1) 1) = s ++ ⟨#[1]⟩ by rw [← bs_append, bs_self]; rfl] at h
  exact h
set_option maxRecDepth 100000 in
set_option maxHeartbeats 1000000 in
theorem OctetWrites_walk (A : Option Addr) (c : Nat) (l : List Item) (w : World) (hA : Items A l w) (hok : ∀ x ∈ l, x.Ok) (hlm : l.length ≤ maxLen) :
    Calls Try.prog 3 #[.slice A l.length c] w fun e w' => e = .returned (.bool true) ∧ Below w.heap.size w w' := by
  have HA := Lib.hid hA
  have HO := Lib.hid hok
  clear hA hok
  go_enter Try.func3, Try.ntmps3
  go_wp2_with fail
  refine (awake_calls _).mono ?_
  rintro e w1 ⟨rfl, hb1⟩
  go_wp2_with fail
  have HA1 := Lib.hid (HA.out.below hb1)
  refine (light_calls A c l w1 HA1.out hlm).mono ?_
  rintro e w2 ⟨rfl, hb2⟩
  have HB2 := Lib.hid (bthen hb1 hb2)
  have HA2 := Lib.hid (HA1.out.below hb2)
  clear hb1 hb2 HA1
  cases hl : lightB l with
  | false =>
    go_wp2
    go_ret
    exact ⟨rfl, HB2.out⟩
  | true =>
    obtain ⟨hn, ht⟩ := light_iff hl
    have HL := Lib.hid hl
    have HT := Lib.hid ht
    clear hl ht
    go_wp2
    go_loopw [3, 15] (fun t i wr => ∃ k : Nat, k ≤ l.length ∧ i = .int .i64 k ∧ t = .string (bs (items (l.take k))) ∧ Hid (Below w2.heap.size w2 wr)) (fun _ i _ => l.length - (intOf i).toNat)
    case atStart => exact ⟨0, by omega, rfl, rfl, Lib.hid (Below.refl _ _)⟩
    case round =>
      obtain ⟨k, hk, rfl, rfl, hB⟩ := hrel
      by_cases hlt : k < l.length
      · obtain ⟨b, off, rfl, hbw, hi⟩ := (HA2.out.below hB.out) (by omega)
        obtain ⟨c0, c1, c2, c3⟩ := hi k hlt
        clear hi
        have HG := Lib.hid (str_grow l _ k (take_succ_getD l k hlt))
        have HM := Lib.hid (getD_mem l k hlt)
        have hxs := HT.out _ HM.out
        obtain ⟨hxn, hxb, _⟩ := HO.out _ HM.out
        have hsz := taken_le l k hn HT.out
        generalize l.getD k default = x at *
        generalize bs (items (l.take k)) = s at *
        by_cases h0 : x.kind = 0
        · have HE := Lib.hid (HG.out _ ((item_case x).1 h0))
          have h0' : x.kind.toNat = 0 := by rw [h0]; rfl
          have hcat : s.size + (bs (be (wid x.bytes) x.num)).size ≤ 9223372036854775807 := by
            rw [bs_size, be_length]; have := wid_le x.bytes; omega
          rw [h0'] at c0
          clear h0 h0'
          go_wp2_with fail
          refine (RefNum_any x.num x.bytes _ hxn).mono ?_
          rintro e w3 ⟨rfl, hb3⟩
          have HN := Lib.hid (bthen hB.out (after_alloc hb3))
          clear hb3
          go_wp2_with fail
          rw [HE.out]
          exact ⟨⟨k + 1, by omega, by go_num, rfl, HN⟩, by simp [intOf]; omega⟩
        · have h0' : (x.kind.toNat == 0) = false := by
            have : x.kind.toNat ≠ 0 := fun h => h0 (UInt8.toNat_inj.1 h)
            simpa using this
          by_cases h1 : x.kind = 1
          · have HE := Lib.hid (HG.out _ ((item_case x).2.1 h0 h1))
            have h1' : x.kind.toNat = 1 := by rw [h1]; rfl
            have hcat : s.size + (bs (txt x.text.data.toList)).size ≤ 9223372036854775807 := by
              rw [bs_size, txt, List.length_append, be_length]; simp; omega
            rw [h1'] at c0
            clear h0 h1 h1' h0'
            go_wp2_with fail
            refine (RefText_calls x.text (by omega) _).mono ?_
            rintro e w3 ⟨rfl, hb3⟩
            have HN := Lib.hid (bthen hB.out (after_alloc hb3))
            clear hb3
            go_wp2_with fail
            rw [HE.out]
            exact ⟨⟨k + 1, by omega, by go_num, rfl, HN⟩, by simp [intOf]; omega⟩
          · have HE := Lib.hid (HG.out _ ((item_case x).2.2 h0 h1))
            rw [bs_self] at HE
            have h1' : (x.kind.toNat == 1) = false := by
              have : x.kind.toNat ≠ 1 := fun h => h1 (UInt8.toNat_inj.1 h)
              simpa using this
            clear h0 h1
            generalize x.kind.toNat = kd at *
            have h0'' : ¬ ((kd : Int) = 0) := by simp at h0'; omega
            have h1'' : ¬ ((kd : Int) = 1) := by simp at h1'; omega
            have hcat : s.size + x.text.size ≤ 9223372036854775807 := by omega
            go_wp2_with fail
            rw [HE.out]
            exact ⟨⟨k + 1, by omega, by go_num, rfl, Lib.hid (hB.out.alloc hB.out.size _)⟩, by simp [intOf]; omega⟩
      · obtain rfl : k = l.length := by omega
        have hsz := taken_le l l.length hn HT.out
        rw [List.take_length] at hsz ⊢
        go_wp2_with fail
        refine (written_calls A c l wr (HA2.out.below hB.out) HO.out HL.out).mono ?_
        rintro e w3 ⟨rfl, hb3⟩
        have HB3 := Lib.hid (bthen HB2.out (bthen hB.out hb3))
        clear hb3
        generalize bs (items l) = s at *
        have hcat : s.size + (⟨#[1]⟩ : ByteArray).size ≤ 9223372036854775807 := by
          rw [show (⟨#[1]⟩ : ByteArray).size = 1 from rfl]; omega
        go_wp2_with fail
        refine (one_more s hsz _).mono ?_
        rintro e w4 ⟨rfl, hb4⟩
        have HO4 := Lib.hid ((Has.new w3 #[.string s, .int .i64 0] 32).below hb4)
        have HB4 := Lib.hid (bthen HB3.out (after_alloc hb4))
        have k0 : w4.cell? ⟨w3.heap.size, 0, none⟩ = some (.string s) := HO4.out.cell 0
        have k1 : w4.cell? ⟨w3.heap.size, 1, none⟩ = some (.int .i64 0) := HO4.out.cell 1
        have hz : w3.heap.size < w4.heap.size := HO4.out.lt
        have HP4 := Lib.hid (Has.new w4 #[.string (s ++ ⟨#[1]⟩), .int .i64 0] 32)
        have HO5 := Lib.hid (HO4.out.alloc (.cells #[.string (s ++ ⟨#[1]⟩), .int .i64 0] 32))
        clear hb4
        go_wp2_with fail
        refine (OutString_calls _ _ _).mono ?_
        rintro e w5 ⟨rfl, hb5⟩
        have HP6 := Lib.hid (HP4.out.below hb5)
        have HO6 := Lib.hid (HO5.out.below hb5)
        have k0 : w5.cell? ⟨w3.heap.size, 0, none⟩ = some (.string s) := HO6.out.cell 0
        have k1 : w5.cell? ⟨w3.heap.size, 1, none⟩ = some (.int .i64 0) := HO6.out.cell 1
        have HB5 := Lib.hid (bthen HB4.out (after_alloc hb5))
        clear hb5
        go_wp2_with fail
        refine (OutErr_calls _ _ _).mono ?_
        rintro e w6 ⟨rfl, hb6⟩
        have HP7 := Lib.hid (HP6.out.below hb6)
        have k0 : w6.cell? ⟨w4.heap.size, 0, none⟩ = some (.string (s ++ ⟨#[1]⟩)) := HP7.out.cell 0
        have k1 : w6.cell? ⟨w4.heap.size, 1, none⟩ = some (.int .i64 0) := HP7.out.cell 1
        have HB6 := Lib.hid (bthen HB5.out hb6)
        clear hb6
        go_wp2_with fail
        refine (OutString_calls _ _ _).mono ?_
        rintro e w7 ⟨rfl, hb7⟩
        go_wp2_with fail
        go_ret
        exact ⟨by simp, bthen HB6.out hb7⟩
end Go.Proofs.Ytopacbmdoognjaa.Oct
