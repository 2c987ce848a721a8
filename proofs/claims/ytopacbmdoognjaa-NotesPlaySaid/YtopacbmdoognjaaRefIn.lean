/- The walks of the document's reader: Fail, Raw, Num, Text, Left, End. -/
import Derived.Test.YtopacbmdoognjaaOctNum
namespace Go.Proofs.Ytopacbmdoognjaa.Oct
open Go Go.RowKit Frame
/-- The document's reader in block b: all bytes S, and in the state q. -/
structure RAt (b : Nat) (S : List UInt8) (q : St) (w : World) : Prop where
  ex : ∃ at' : Nat, at' ≤ S.length ∧ Has b #[.string (bs S), .int .i64 (at' : Int), .int .i64 q.2] 55 w ∧ (q.2 = 0 → q.1 = S.drop at')
  good : q.2 ≠ 0 → q.1 = []
theorem RAt.below {b : Nat} {S : List UInt8} {q : St} {w w' : World} (h : RAt b S q w) (hb : Below w.heap.size w w') : RAt b S q w' := by
  obtain ⟨⟨a, h1, h2, h3⟩, hg⟩ := h
  exact ⟨⟨a, h1, h2.below hb, h3⟩, hg⟩
theorem RAt.only {b c : Nat} {S : List UInt8} {q : St} {w w' : World} (h : RAt b S q w) (hb : Only c w w') (hne : b ≠ c) : RAt b S q w' := by
  obtain ⟨⟨a, h1, h2, h3⟩, hg⟩ := h
  exact ⟨⟨a, h1, h2.only hb hne, h3⟩, hg⟩
theorem RAt.drew {b : Nat} {S : List UInt8} {q : St} {w : World} (h : RAt b S q w) : RAt b S q w.drew := by
  obtain ⟨⟨a, h1, h2, h3⟩, hg⟩ := h
  exact ⟨⟨a, h1, h2.drew, h3⟩, hg⟩
theorem RAt.new (w : World) (S : List UInt8) : RAt w.heap.size S (S, 0) (w.alloc (.cells #[.string (bs S), .int .i64 0, .int .i64 0] 55)) :=
  ⟨⟨0, Nat.zero_le _, Has.new w _ _, fun _ => rfl⟩, fun h => absurd rfl h⟩
set_option maxHeartbeats 1000000 in
theorem RFail_calls (b : Nat) (S : List UInt8) (q : St) (c : Int) (w : World) (h : RAt b S q w) :
    Calls Try.prog 37 #[.pointer (some ⟨b, 0, none⟩), .int .i64 c] w fun e w' => e = .returned (.tuple #[]) ∧ RAt b S (fail q c) w' ∧ Only b w w' := by
  obtain ⟨l, x⟩ := q
  obtain ⟨⟨a, ha, hh, hd⟩, hg⟩ := h
  have c2 : w.cell? ⟨b, 2, none⟩ = some (.int .i64 x) := hh.cell 2
  have f2 := hh.frozen 2
  have HA := Lib.hid hh
  clear hh
  by_cases h1 : x = 0
  · subst h1
    have HD := Lib.hid hd
    have HG := Lib.hid hg
    clear hd hg
    go_enter Try.func37, Try.ntmps37
    go_wp2
    go_end0
    have h3 := HA.out.set (i := 2) (.int .i64 c)
    refine ⟨rfl, ?_, (Only.refl _ _).set _⟩
    by_cases h2 : c = 0
    · subst h2
      rw [show fail (l, 0) 0 = (l, 0) by simp [fail]]
      exact ⟨⟨a, ha, h3, fun _ => HD.out (by first | trivial | rfl)⟩, fun h => absurd rfl h⟩
    · rw [show fail (l, 0) c = ([], c) by simp [fail, h2]]
      exact ⟨⟨a, ha, h3, fun h => absurd h h2⟩, fun _ => rfl⟩
  · have h1' : (x == 0) = false := by simpa using h1
    have HC := Lib.hid h1
    have HG := Lib.hid hg
    clear h1 hd hg
    go_enter Try.func37, Try.ntmps37
    go_wp2
    go_end0
    refine ⟨rfl, ?_, Only.refl _ _⟩
    rw [show fail (l, x) c = (l, x) by simp [fail, HC.out]]
    exact ⟨⟨a, ha, HA.out, fun h => absurd h HC.out⟩, HG.out⟩
theorem extract_mid (S : List UInt8) (a n : Nat) : (bs S).extract a (a + n) = bs ((S.drop a).take n) := ba_ext (by simp [bs])
set_option maxHeartbeats 1000000 in
theorem RRaw_calls (b : Nat) (S : List UInt8) (q : St) (n : Int) (hl : S.length ≤ maxLen) (w : World) (h : RAt b S q w) :
    Calls Try.prog 43 #[.pointer (some ⟨b, 0, none⟩), .int .i64 n] w fun e w' => e = .returned (.string (bs (raw q n).1)) ∧ RAt b S (raw q n).2 w' ∧ Only b w w' := by
  obtain ⟨l, x⟩ := q
  unfold maxLen at hl
  have hR := h
  obtain ⟨⟨a, ha, hh, hd⟩, hg⟩ := h
  have c0 : w.cell? ⟨b, 0, none⟩ = some (.string (bs S)) := hh.cell 0
  have c1 : w.cell? ⟨b, 1, none⟩ = some (.int .i64 (a : Int)) := hh.cell 1
  have c2 : w.cell? ⟨b, 2, none⟩ = some (.int .i64 x) := hh.cell 2
  have f1 := hh.frozen 1
  have HA := Lib.hid hh
  have HR' := Lib.hid hR
  have HG := Lib.hid hg
  clear hh hR hg
  have hsz : (bs S).size = S.length := bs_size S
  by_cases h1 : x = 0
  · subst h1
    have hd' : l = S.drop a := hd rfl
    clear hd
    by_cases h2 : n ≤ 0
    · have HR := Lib.hid (show raw (l, 0) n = ([], (l, 0)) by simp [raw, h2])
      clear hd'
      go_enter Try.func43, Try.ntmps43
      go_wp2
      go_ret
      rw [HR.out]
      exact ⟨rfl, HR'.out, Only.refl _ _⟩
    · have hll : l.length = S.length - a := by rw [hd']; simp
      by_cases h3 : (S.length : Int) - (a : Int) < n
      · have HR := Lib.hid (show raw (l, 0) n = ([], fail (l, 0) 3) by simp only [raw]; rw [if_neg (by simp; omega), if_pos (by omega)])
        clear hd' hll
        go_enter Try.func43, Try.ntmps43
        go_wp2_with fail
        have e1 : IntKind.i64.wrap ((S.length : Int) - (a : Int)) = (S.length : Int) - (a : Int) := IntWalk.i64_in _ (by omega)
        go_region
        go_wp2_with fail
        refine (RFail_calls b S _ 3 _ HR'.out.drew).mono ?_
        rintro e w1 ⟨rfl, h4, h5⟩
        have H4 := Lib.hid h4
        clear h4
        go_wp2_with fail
        go_ret
        rw [HR.out]
        exact ⟨rfl, H4.out, (Only.refl _ _).drew.trans h5⟩
      · obtain ⟨k, rfl⟩ : ∃ k : Nat, n = (k : Int) := ⟨n.toNat, by omega⟩
        have HR := Lib.hid (show raw (l, 0) (k : Int) = (l.take k, (l.drop k, 0)) by simp only [raw]; rw [if_neg (by simp; omega), if_neg (by omega)]; simp)
        have HD := Lib.hid hd'
        clear hd' hll
        have hk : a + k ≤ S.length := by omega
        go_enter Try.func43, Try.ntmps43
        go_wp2_with fail
        have e1 : IntKind.i64.wrap ((S.length : Int) - (a : Int)) = (S.length : Int) - (a : Int) := IntWalk.i64_in _ (by omega)
        go_region
        go_wp2_with fail
        have e2 : IntKind.i64.wrap ((a : Int) + (k : Int) - (k : Int)) = (a : Int) := by rw [Int.add_sub_cancel]; exact IntWalk.i64_in _ (by omega)
        go_region
        go_wp2_with fail
        go_ret
        rw [HR.out]
        have h3 := HA.out.set (i := 1) (.int .i64 ((a : Int) + (k : Int)))
        refine ⟨by rw [HD.out, ← extract_mid]; rfl, ⟨⟨a + k, hk, ?_, fun _ => by simp only; rw [HD.out, List.drop_drop]⟩, fun h => absurd rfl h⟩, (((Only.refl _ _).set _).drew).drew⟩
        rw [Int.natCast_add]
        exact h3.drew.drew
  · have h1' : (x == 0) = false := by simpa using h1
    have h1'' : (x != 0) = true := by simpa using h1
    have HR := Lib.hid (show raw (l, x) n = ([], (l, x)) by simp [raw, h1])
    clear h1 hd
    go_enter Try.func43, Try.ntmps43
    go_wp2
    go_ret
    rw [HR.out]
    exact ⟨rfl, HR'.out, Only.refl _ _⟩
end Go.Proofs.Ytopacbmdoognjaa.Oct
