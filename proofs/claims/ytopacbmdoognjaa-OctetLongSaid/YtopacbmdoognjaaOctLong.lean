/- The walk of OctetLong. -/
import Derived.Test.YtopacbmdoognjaaOctAwake
import Derived.Test.YtopacbmdoognjaaOctRef
import Derived.Test.YtopacbmdoognjaaShelf
namespace Go.Proofs.Ytopacbmdoognjaa.Oct
open Go Go.RowKit Frame
theorem Rep_calls (n : Nat) (hn : n ≤ 70000) (w : World) :
    Calls Try.prog 72 #[.string ⟨#[97]⟩, .int .i64 n] w fun e w' => ∃ t : ByteArray, e = .returned (.string t) ∧ t.size = n ∧ Below w.heap.size w w' := by
  by_cases h0 : n = 0
  · subst h0
    refine (Try.strings_Repeat_zero _ w).mono ?_
    rintro e w' ⟨rfl, rfl⟩
    exact ⟨_, rfl, rfl, Below.refl _ _⟩
  · by_cases h1 : n = 1
    · subst h1
      refine (Try.strings_Repeat_one _ w).mono ?_
      rintro e w' ⟨rfl, rfl⟩
      exact ⟨_, rfl, rfl, Below.refl _ _⟩
    · refine (Try.strings_Repeat_main _ n w (by omega) (by omega) (by rw [show (⟨#[97]⟩ : ByteArray).size = 1 from rfl]; omega) (by decide)).mono ?_
      rintro e w' ⟨rfl, hb⟩
      refine ⟨_, rfl, ?_, hb⟩
      show (Lib.repeatL [97] n).toArray.size = n
      rw [List.size_toArray, Lib.repeatL_length]
      simp
theorem Text_long (s t : ByteArray) (ht : 65535 < t.size) (w : World) :
    Calls Try.prog 71 #[.agg #[.string s, .int .i64 0], .string t] w fun e' w' => e' = .returned (.agg #[.string s, .int .i64 5]) ∧ Below w.heap.size w w' := OutText_long s t 0 ht w
set_option maxRecDepth 100000 in
set_option maxHeartbeats 1000000 in
theorem OctetLong_walk (n : Int) (s : ByteArray) (hn : -2147483648 ≤ n ∧ n ≤ 2147483647) (hs : s.size ≤ maxLen) (w : World) :
    Calls Try.prog 15 #[.int .i32 n, .string s] w fun e w' => e = .returned (.bool true) ∧ Below w.heap.size w w' := by
  unfold maxLen at hs
  by_cases h1 : n < 0
  · go_enter Try.func15, Try.ntmps15
    go_wp2_with fail
    refine (awake_calls _).mono ?_
    rintro e w1 ⟨rfl, hb1⟩
    go_wp2_with fail
    go_ret
    exact ⟨rfl, hb1⟩
  by_cases h2 : 70000 < n
  · go_enter Try.func15, Try.ntmps15
    go_wp2_with fail
    refine (awake_calls _).mono ?_
    rintro e w1 ⟨rfl, hb1⟩
    go_wp2_with fail
    go_ret
    exact ⟨rfl, hb1⟩
  by_cases h3 : 100 < s.size
  · go_enter Try.func15, Try.ntmps15
    go_wp2_with fail
    refine (awake_calls _).mono ?_
    rintro e w1 ⟨rfl, hb1⟩
    go_wp2_with fail
    go_ret
    exact ⟨rfl, hb1⟩
  obtain ⟨k, rfl⟩ : ∃ k : Nat, n = (k : Int) := ⟨n.toNat, by omega⟩
  have e0 : bs ((⟨#[]⟩ : ByteArray).data.toList ++ s.data.toList) = s := by simp [bs_self]
  have HR := Lib.hid (show ∀ W, Calls Try.prog 70 #[.agg #[.string ⟨#[]⟩, .int .i64 0], .string s] W fun e' w' => e' = .returned (.agg #[.string s, .int .i64 0]) ∧ Below W.heap.size W w' from fun W => by
    have := OutRaw_calls ⟨#[]⟩ s 0 (by decide) (by omega) W
    rw [e0] at this
    exact this)
  clear e0
  by_cases hk : 65535 < k
  · go_enter Try.func15, Try.ntmps15
    go_wp2_with fail
    refine (awake_calls _).mono ?_
    rintro e w1 ⟨rfl, hb1⟩
    go_wp2_with fail
    refine (HR.out _).mono ?_
    rintro e w2 ⟨rfl, hb2⟩
    have HB2 := Lib.hid (bthen hb1 hb2)
    clear hb1 hb2
    go_wp2_with fail
    refine (Rep_calls k (by omega) _).mono ?_
    rintro e w3 ⟨t, rfl, ht, hb3⟩
    have HB3 := Lib.hid (bthen HB2.out hb3)
    clear hb3
    go_wp2_with fail
    refine (Text_long s t (by omega) _).mono ?_
    rintro e w4 ⟨rfl, hb4⟩
    have HB4 := Lib.hid (bthen HB3.out hb4)
    clear hb4 ht
    have HT := Lib.hid (show ∀ W, Calls Try.prog 71 #[.agg #[.string s, .int .i64 5], .string s] W fun e' w' => e' = .returned (.agg #[.string (s ++ bs (txt s.data.toList)), .int .i64 5]) ∧ Below W.heap.size W w' from fun W => by
      have := OutText_calls s s 5 (by omega) (by omega) W
      rw [← bs_append, bs_self] at this
      exact this)
    have hcat : s.size + (bs (txt s.data.toList)).size ≤ 9223372036854775807 := by
      rw [bs_size, txt, List.length_append, be_length]; simp; omega
    generalize hT : bs (txt s.data.toList) = T at *
    have HTE := Lib.hid hT
    clear hT
    go_wp2_with fail
    refine (HT.out _).mono ?_
    rintro e w5 ⟨rfl, hb5⟩
    have HO5 := Lib.hid ((Has.new w4 #[.string s, .int .i64 5] 32).below hb5)
    have HB5 := Lib.hid (bthen HB4.out (after_alloc hb5))
    have k0 : w5.cell? ⟨w4.heap.size, 0, none⟩ = some (.string s) := HO5.out.cell 0
    have k1 : w5.cell? ⟨w4.heap.size, 1, none⟩ = some (.int .i64 5) := HO5.out.cell 1
    have hz : w4.heap.size < w5.heap.size := HO5.out.lt
    have HP5 := Lib.hid (Has.new w5 #[.string (s ++ T), .int .i64 5] 32)
    have HO6 := Lib.hid (HO5.out.alloc (.cells #[.string (s ++ T), .int .i64 5] 32))
    clear hb5
    go_wp2_with fail
    refine (OutString_calls _ _ _).mono ?_
    rintro e w6 ⟨rfl, hb6⟩
    have HP6 := Lib.hid (HP5.out.below hb6)
    have HO7 := Lib.hid (HO6.out.below hb6)
    have k0 : w6.cell? ⟨w4.heap.size, 0, none⟩ = some (.string s) := HO7.out.cell 0
    have k1 : w6.cell? ⟨w4.heap.size, 1, none⟩ = some (.int .i64 5) := HO7.out.cell 1
    have HB6 := Lib.hid (bthen HB5.out (after_alloc hb6))
    clear hb6
    go_wp2_with fail
    refine (OutErr_calls _ _ _).mono ?_
    rintro e w7 ⟨rfl, hb7⟩
    have HP7 := Lib.hid (HP6.out.below hb7)
    have k0 : w7.cell? ⟨w5.heap.size, 0, none⟩ = some (.string (s ++ T)) := HP7.out.cell 0
    have k1 : w7.cell? ⟨w5.heap.size, 1, none⟩ = some (.int .i64 5) := HP7.out.cell 1
    have HB7 := Lib.hid (bthen HB6.out hb7)
    clear hb7
    go_wp2_with fail
    refine (OutErr_calls _ _ _).mono ?_
    rintro e w8 ⟨rfl, hb8⟩
    have HP8 := Lib.hid (HP7.out.below hb8)
    have k0 : w8.cell? ⟨w5.heap.size, 0, none⟩ = some (.string (s ++ T)) := HP8.out.cell 0
    have k1 : w8.cell? ⟨w5.heap.size, 1, none⟩ = some (.int .i64 5) := HP8.out.cell 1
    have HB8 := Lib.hid (bthen HB7.out hb8)
    clear hb8
    go_wp2_with fail
    refine (OutString_calls _ _ _).mono ?_
    rintro e w9 ⟨rfl, hb9⟩
    have HB9 := Lib.hid (bthen HB8.out hb9)
    clear hb9
    go_wp2_with fail
    refine (RefText_calls s (by omega) _).mono ?_
    rintro e w10 ⟨rfl, hb10⟩
    rw [HTE.out]
    go_wp2_with fail
    go_ret
    exact ⟨by simp, bthen HB9.out hb10⟩
  · go_enter Try.func15, Try.ntmps15
    go_wp2_with fail
    refine (awake_calls _).mono ?_
    rintro e w1 ⟨rfl, hb1⟩
    go_wp2_with fail
    refine (HR.out _).mono ?_
    rintro e w2 ⟨rfl, hb2⟩
    have HB2 := Lib.hid (bthen hb1 hb2)
    clear hb1 hb2
    go_wp2_with fail
    refine (Rep_calls k (by omega) _).mono ?_
    rintro e w3 ⟨t, rfl, ht, hb3⟩
    have HB3 := Lib.hid (bthen HB2.out hb3)
    clear hb3
    go_wp2_with fail
    refine (OutText_calls s t 0 (by omega) (by omega) _).mono ?_
    rintro e w4 ⟨rfl, hb4⟩
    have HB4 := Lib.hid (bthen HB3.out hb4)
    have hlen : (bs (s.data.toList ++ txt t.data.toList)).size = s.size + 2 + k := by
      rw [bs_size, List.length_append, txt, List.length_append, be_length]; simp; omega
    generalize bs (s.data.toList ++ txt t.data.toList) = o at *
    clear hb4 ht
    go_wp2_with fail
    refine (OutText_calls o s 0 (by omega) (by omega) _).mono ?_
    rintro e w5 ⟨rfl, hb5⟩
    generalize bs (o.data.toList ++ txt s.data.toList) = p at *
    have HO5 := Lib.hid ((Has.new w4 #[.string o, .int .i64 0] 32).below hb5)
    have HB5 := Lib.hid (bthen HB4.out (after_alloc hb5))
    have k0 : w5.cell? ⟨w4.heap.size, 0, none⟩ = some (.string o) := HO5.out.cell 0
    have k1 : w5.cell? ⟨w4.heap.size, 1, none⟩ = some (.int .i64 0) := HO5.out.cell 1
    have hz : w4.heap.size < w5.heap.size := HO5.out.lt
    have HO6 := Lib.hid (HO5.out.alloc (.cells #[.string p, .int .i64 0] 32))
    clear hb5
    go_wp2_with fail
    refine (OutErr_calls _ _ _).mono ?_
    rintro e w6 ⟨rfl, hb6⟩
    have HO7 := Lib.hid (HO6.out.below hb6)
    have k0 : w6.cell? ⟨w4.heap.size, 0, none⟩ = some (.string o) := HO7.out.cell 0
    have k1 : w6.cell? ⟨w4.heap.size, 1, none⟩ = some (.int .i64 0) := HO7.out.cell 1
    have HB6 := Lib.hid (bthen HB5.out (after_alloc hb6))
    clear hb6
    go_wp2_with fail
    refine (OutString_calls _ _ _).mono ?_
    rintro e w7 ⟨rfl, hb7⟩
    go_wp2_with fail
    go_ret
    exact ⟨by simp, bthen HB6.out hb7⟩
end Go.Proofs.Ytopacbmdoognjaa.Oct
