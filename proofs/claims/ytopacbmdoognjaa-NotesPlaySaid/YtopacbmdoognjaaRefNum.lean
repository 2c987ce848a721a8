/- The walks of the document's reader: Num, Text, Left, End. -/
import Derived.Test.YtopacbmdoognjaaRefIn
import Derived.Deep.QuietTactic
import Derived.BigQuiet
namespace Go.Proofs.Ytopacbmdoognjaa.Oct
open Go Go.RowKit Frame
theorem num_take_str (s : ByteArray) (k : Nat) (h : k < s.size) : num (s.data.toList.take (k + 1)) = num (s.data.toList.take k) * 256 + s[k].toNat := by
  have h' : k < s.data.toList.length := by simpa using h
  rw [List.take_succ_eq_append_getElem h', num_snoc]
  rfl
theorem take_all (s : ByteArray) : s.data.toList.take s.size = s.data.toList := by
  rw [List.take_of_length_le]; simp
set_option maxHeartbeats 1000000 in
theorem RNum_calls (b : Nat) (S : List UInt8) (q : St) (n : Int) (hl : S.length ≤ maxLen) (w : World) (h : RAt b S q w) :
    Calls Try.prog 39 #[.pointer (some ⟨b, 0, none⟩), .int .i64 n] w fun e w' => e = .returned (.int .u64 ((inum q n).1 : Int)) ∧ RAt b S (inum q n).2 w' ∧ Only b w w' := by
  have HA := Lib.hid h
  clear h
  have hr8 : (raw q (min n 8)).1.length ≤ 8 := by have := raw_length q (min n 8); omega
  have HE := Lib.hid (show inum q n = (num (raw q (min n 8)).1, (raw q (min n 8)).2) from rfl)
  by_cases h8 : (8 : Int) < n
  all_goals
    first | rw [show min n 8 = 8 by omega] at * | rw [show min n 8 = n by omega] at *
    go_enter Try.func39, Try.ntmps39
    go_wp2_with fail
    refine (RRaw_calls b S q _ hl _ HA.out).mono ?_
    rintro e w1 ⟨rfl, h4, h5⟩
    have H4 := Lib.hid h4
    have H5 := Lib.hid h5
    clear h4 h5
    generalize raw q _ = r at *
    obtain ⟨s, hs⟩ : ∃ s : ByteArray, s = bs r.1 := ⟨_, rfl⟩
    have hsz : s.size ≤ 8 := by rw [hs, bs_size]; exact hr8
    have HS := Lib.hid (show r.1 = s.data.toList by rw [hs]; rfl)
    rw [← hs]
    clear hs hr8
    go_wp2_with fail
    go_loop [6, 7] (fun x i => ∃ k : Nat, k ≤ s.size ∧ i = .int .i64 k ∧ x = .int .u64 ((num (s.data.toList.take k) : Nat) : Int)) (fun _ i => s.size - (intOf i).toNat)
    case atStart => exact ⟨0, by omega, rfl, by simp [num]⟩
    case round =>
      obtain ⟨k, hk, rfl, rfl⟩ := hrel
      by_cases hlt : k < s.size
      · have HN := Lib.hid (num_take_str s k hlt)
        have hx : num (s.data.toList.take k) < 72057594037927936 := by
          have h1 := num_lt (s.data.toList.take k)
          have h2 : 256 ^ (s.data.toList.take k).length ≤ 256 ^ 7 := Nat.pow_le_pow_right (by decide) (by simp; omega)
          have : (256 : Nat) ^ 7 = 72057594037927936 := by decide
          omega
        have hy := s[k].toNat_lt
        generalize num (s.data.toList.take k) = x at *
        have e1 : IntKind.u64.wrap ((x : Int) * 256) = (x : Int) * 256 := by rw [IntKind.wrap_u64]; omega
        have e2 : IntKind.u64.wrap ((x : Int) * 256 + (s[k].toNat : Int)) = (x : Int) * 256 + (s[k].toNat : Int) := by rw [IntKind.wrap_u64]; omega
        go_wp2
        exact ⟨⟨k + 1, by omega, by go_num, by rw [HN.out]; go_num⟩, by simp [intOf]; omega⟩
      · obtain rfl : k = s.size := by omega
        rw [take_all]
        go_wp2
        go_ret
        rw [HE.out]
        rw [← HS.out]
        exact ⟨rfl, H4.out, H5.out⟩
set_option maxHeartbeats 1000000 in
theorem RText_calls (b : Nat) (S : List UInt8) (q : St) (most : Int) (hl : S.length ≤ maxLen) (w : World) (h : RAt b S q w) :
    Calls Try.prog 41 #[.pointer (some ⟨b, 0, none⟩), .int .i64 most] w fun e w' => e = .returned (.string (bs (itext q most).1)) ∧ RAt b S (itext q most).2 w' ∧ Only b w w' := by
  have HA := Lib.hid h
  clear h
  have hlt := inum2_lt q
  by_cases hm : most < ((inum q 2).1 : Int)
  · have HE := Lib.hid (show itext q most = raw (fail (inum q 2).2 5) ((inum q 2).1 : Int) by unfold itext; rw [if_pos hm])
    go_enter Try.func41, Try.ntmps41
    go_wp2_with fail
    refine (RNum_calls b S q 2 hl _ HA.out).mono ?_
    rintro e w1 ⟨rfl, h4, h5⟩
    have H4 := Lib.hid h4
    have H5 := Lib.hid h5
    clear h4 h5
    generalize inum q 2 = r at *
    go_wp2_with fail
    refine (RFail_calls b S r.2 5 _ H4.out).mono ?_
    rintro e w2 ⟨rfl, h6, h7⟩
    have H6 := Lib.hid h6
    have H7 := Lib.hid h7
    clear h6 h7
    go_wp2_with fail
    refine (RRaw_calls b S _ _ hl _ H6.out).mono ?_
    rintro e w3 ⟨rfl, h8, h9⟩
    have H8 := Lib.hid h8
    have H9 := Lib.hid h9
    clear h8 h9
    go_wp2_with fail
    go_ret
    rw [HE.out]
    exact ⟨rfl, H8.out, (H5.out.trans H7.out).trans H9.out⟩
  · have HE := Lib.hid (show itext q most = raw (inum q 2).2 ((inum q 2).1 : Int) by unfold itext; rw [if_neg hm])
    go_enter Try.func41, Try.ntmps41
    go_wp2_with fail
    refine (RNum_calls b S q 2 hl _ HA.out).mono ?_
    rintro e w1 ⟨rfl, h4, h5⟩
    have H4 := Lib.hid h4
    have H5 := Lib.hid h5
    clear h4 h5
    generalize inum q 2 = r at *
    go_wp2_with fail
    refine (RRaw_calls b S _ _ hl _ H4.out).mono ?_
    rintro e w3 ⟨rfl, h8, h9⟩
    have H8 := Lib.hid h8
    have H9 := Lib.hid h9
    clear h8 h9
    go_wp2_with fail
    go_ret
    rw [HE.out]
    exact ⟨rfl, H8.out, H5.out.trans H9.out⟩
set_option maxHeartbeats 1000000 in
theorem RLeft_calls (b : Nat) (S : List UInt8) (q : St) (hl : S.length ≤ maxLen) (w : World) (h : RAt b S q w) :
    Calls Try.prog 45 #[.pointer (some ⟨b, 0, none⟩)] w fun e w' => e = .returned (.int .i64 q.1.length) ∧ ∃ m, w' = w.drewN m := by
  obtain ⟨l, x⟩ := q
  unfold maxLen at hl
  obtain ⟨⟨a, ha, hh, hd⟩, hg⟩ := h
  have c0 : w.cell? ⟨b, 0, none⟩ = some (.string (bs S)) := hh.cell 0
  have c1 : w.cell? ⟨b, 1, none⟩ = some (.int .i64 (a : Int)) := hh.cell 1
  have c2 : w.cell? ⟨b, 2, none⟩ = some (.int .i64 x) := hh.cell 2
  have hsz : (bs S).size = S.length := bs_size S
  clear hh
  by_cases h1 : x = 0
  · subst h1
    have HL := Lib.hid (show l.length = S.length - a by rw [show l = S.drop a from hd rfl]; simp)
    clear hd hg
    have e1 : IntKind.i64.wrap ((S.length : Int) - (a : Int)) = (S.length : Int) - (a : Int) := IntWalk.i64_in _ (by omega)
    go_enter Try.func45, Try.ntmps45
    go_wp2_with fail
    go_region
    go_wp2_with fail
    go_ret
    have := HL.out
    refine ⟨?_, 1, by rfl⟩
    show _ = Ending.returned (Value.int .i64 (l.length : Int))
    rw [show (l.length : Int) = (S.length : Int) - (a : Int) by omega]
    rfl
  · have h1' : (x == 0) = false := by simpa using h1
    have h1'' : (x != 0) = true := by simpa using h1
    have HG := Lib.hid (show l = [] from hg h1)
    clear h1 hd hg
    go_enter Try.func45, Try.ntmps45
    go_wp2_with fail
    go_ret
    refine ⟨?_, 0, by rfl⟩
    show _ = Ending.returned (Value.int .i64 (l.length : Int))
    rw [HG.out]
    rfl
set_option maxHeartbeats 1000000 in
theorem REnd_calls (b : Nat) (S : List UInt8) (q : St) (w : World) (h : RAt b S q w) :
    Calls Try.prog 48 #[.pointer (some ⟨b, 0, none⟩)] w fun e w' => e = .returned (.int .i64 (iend q)) ∧ ∃ m, w' = w.drewN m := by
  obtain ⟨l, x⟩ := q
  obtain ⟨⟨a, ha, hh, hd⟩, hg⟩ := h
  have c0 : w.cell? ⟨b, 0, none⟩ = some (.string (bs S)) := hh.cell 0
  have c1 : w.cell? ⟨b, 1, none⟩ = some (.int .i64 (a : Int)) := hh.cell 1
  have c2 : w.cell? ⟨b, 2, none⟩ = some (.int .i64 x) := hh.cell 2
  have hsz : (bs S).size = S.length := bs_size S
  clear hh
  by_cases h1 : x = 0
  · subst h1
    have hL : l.length = S.length - a := by rw [show l = S.drop a from hd rfl]; simp
    by_cases h2 : a < S.length
    · have HI := Lib.hid (show iend (l, 0) = 4 by unfold iend; rw [if_pos ⟨rfl, by simp only; omega⟩])
      clear hd hg hL
      go_enter Try.func48, Try.ntmps48
      go_wp2_with fail
      go_region
      go_wp2_with fail
      go_ret
      rw [HI.out]
      exact ⟨rfl, 1, by rfl⟩
    · have HI := Lib.hid (show iend (l, 0) = 0 by unfold iend; rw [if_neg (fun h => by have := h.2; simp only at this; omega)])
      clear hd hg hL
      go_enter Try.func48, Try.ntmps48
      go_wp2_with fail
      go_region
      go_wp2_with fail
      go_ret
      rw [HI.out]
      exact ⟨rfl, 1, by rfl⟩
  · have h1' : (x == 0) = false := by simpa using h1
    have HI := Lib.hid (show iend (l, x) = x by unfold iend; rw [if_neg (fun h => h1 h.1)])
    clear h1 hd hg
    go_enter Try.func48, Try.ntmps48
    go_wp2_with fail
    go_region
    go_wp2_with fail
    go_ret
    rw [HI.out]
    exact ⟨rfl, 1, by rfl⟩
theorem drewN_below (w : World) (m : Nat) : Below w.heap.size w (w.drewN m) := ⟨rfl, rfl, rfl, Nat.le_refl _, fun _ _ => rfl⟩
end Go.Proofs.Ytopacbmdoognjaa.Oct
