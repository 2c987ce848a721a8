/- The walks of stairwellref19: Get, Same. -/
import Derived.Test.YtopacbmdoognjaaNotesRef
namespace Go.Proofs.Ytopacbmdoognjaa.Not
open Go Go.RowKit Frame
theorem setThree {p : Nat} {x y z : Value} {t : TypeId} {w : World} (h : Has p #[x, y, z] t w) (a b c : Value) : Has p #[a, b, c] t (((w.setCell ⟨p, 0, none⟩ a).setCell ⟨p, 1, none⟩ b).setCell ⟨p, 2, none⟩ c) := by
  have := ((h.set (i := 0) a).set (i := 1) b).set (i := 2) c
  simpa using this
set_option maxRecDepth 100000 in
set_option maxHeartbeats 1000000 in
theorem RGet_calls (tot : Nat) (ht : tot < 18446744073709551616) (l : List Nt) (hl : l.length ≤ 1000) (hle : l.length ≤ tot) (v : Value) (k : Nat) (w : World) (h : NS v l w) :
    Calls Try.prog 66 #[.agg #[.int .u64 (tot : Int), v], .int .u64 (k : Int)] w fun e w' =>
      e = .returned (.tuple #[NV (getN tot l k).1, .bool (getN tot l k).2]) ∧ Below w.heap.size w w' := by
  obtain ⟨A, c, rfl, hA, hN⟩ := h
  have hb0 := (((Below.refl w.heap.size w).alloc (by simp) (.cells #[.int .u64 (tot : Int), .slice A l.length c] 87)).alloc (by simp) (.cells #[.int .u64 0, .int .u8 0, .string ⟨#[]⟩] 93))
  have F0 := Lib.hid ((Has.new w #[.int .u64 (tot : Int), .slice A l.length c] 87).alloc (.cells #[.int .u64 0, .int .u8 0, .string ⟨#[]⟩] 93))
  have F1 := Has.new (w.alloc (.cells #[.int .u64 (tot : Int), .slice A l.length c] 87)) #[.int .u64 0, .int .u8 0, .string ⟨#[]⟩] 93
  rw [show (w.alloc (.cells #[.int .u64 (tot : Int), .slice A l.length c] 87)).heap.size = w.heap.size + 1 by simp] at F1
  have F1 := Lib.hid F1
  have B0 := Lib.hid hb0
  have N0 := Lib.hid (hN.below hb0)
  clear hb0 hN
  go_enter Try.func66, Try.ntmps66
  go_wp2_with fail
  generalize (w.alloc (.cells #[.int .u64 (tot : Int), .slice A l.length c] 87)).alloc (.cells #[.int .u64 0, .int .u8 0, .string ⟨#[]⟩] 93) = w0 at *
  go_loopw [11] (fun i wr => ∃ j : Nat, j ≤ l.length ∧ i = .int .i64 j ∧ Hid (Below w0.heap.size w0 wr) ∧ Hid (∀ m, m < j → tot - (l.length - 1 - m) ≠ k)) (fun i _ => l.length - (intOf i).toNat)
  case atStart => exact ⟨0, by omega, rfl, Lib.hid (Below.refl _ _), Lib.hid (fun m h => absurd h (Nat.not_lt_zero m))⟩
  case round =>
    obtain ⟨j, hj, rfl, hW, hP⟩ := hrel
    have Fa := Lib.hid (F0.out.below hW.out)
    have Fb := Lib.hid (F1.out.below hW.out)
    have y0 := Fa.out.cell 0
    have y1 := Fa.out.cell 1
    have yl := Fa.out.lt
    have r0 := Fb.out.cell 0
    have r1 := Fb.out.cell 1
    have r2 := Fb.out.cell 2
    have rf := Fb.out.frozen
    have rl := Fb.out.lt
    have Bw := Lib.hid (bthen B0.out hW.out)
    by_cases hlt : j < l.length
    · obtain ⟨b, off, rfl, hb, hi⟩ := (N0.out.below hW.out) (by omega)
      obtain ⟨c0, c1, c2⟩ := hi j hlt
      clear hi
      have hs0 : IntKind.u64.wrap ((l.length : Int) - 1 - (j : Int)) = ((l.length - 1 - j : Nat) : Int) := by rw [IntKind.wrap_u64]; omega
      have hs1 : IntKind.u64.wrap ((tot : Int) - ((l.length - 1 - j : Nat) : Int)) = ((tot - (l.length - 1 - j) : Nat) : Int) := by rw [IntKind.wrap_u64]; omega
      by_cases hm : tot - (l.length - 1 - j) = k
      · have HE := Lib.hid (show getN tot l k = (l.getD j default, true) by
          unfold getN
          rw [if_neg (by omega), show k - (tot - l.length) - 1 = j by omega])
        have hm' : (((tot - (l.length - 1 - j) : Nat) : Int) == (k : Int)) = true := by rw [hm]; simp
        clear hm
        generalize l.getD j default = x at *
        have Fc := (setThree Fb.out (.int .u64 x.tick) (.int .u8 x.kind.toNat) (.string x.text)).alloc (.cells #[.int .u64 x.tick, .int .u8 x.kind.toNat, .string x.text] 93)
        have s0 := Fc.cell 0
        have s1 := Fc.cell 1
        have s2 := Fc.cell 2
        go_wp2_with fail
        refine bodyPost_ret (v := .tuple #[NV x, .bool true]) (by simp [results, Try.results66, go_sem, NV, s0, s1, s2]) rfl ?_
        rw [HE.out]
        exact ⟨rfl, (((Bw.out.setCell (p := ⟨w.heap.size + 1, 0, none⟩) (by simp) _).setCell (p := ⟨w.heap.size + 1, 1, none⟩) (by simp) _).setCell (p := ⟨w.heap.size + 1, 2, none⟩) (by simp) _).alloc (by simp [World.setCell]; omega) _⟩
      · have hm' : (((tot - (l.length - 1 - j) : Nat) : Int) == (k : Int)) = false := beq_eq_false_iff_ne.2 (by omega)
        have HM := Lib.hid hm
        clear hm
        generalize l.getD j default = x at *
        go_wp2_with fail
        exact ⟨⟨j + 1, by omega, by go_num, Lib.hid (hW.out.alloc hW.out.size _), Lib.hid (fun m h => by
          rcases Nat.lt_succ_iff_lt_or_eq.1 h with h | rfl
          · exact hP.out m h
          · exact HM.out)⟩, by simp [intOf]; omega⟩
    · obtain rfl : j = l.length := by omega
      have HE := Lib.hid (show getN tot l k = (Nt.zero, false) by
        unfold getN
        by_cases h : k ≤ tot - l.length ∨ tot < k
        · rw [if_pos h]
        · exact absurd (show tot - (l.length - 1 - (k - (tot - l.length) - 1)) = k by omega) (hP.out (k - (tot - l.length) - 1) (by omega)))
      go_wp2_with fail
      refine bodyPost_ret (v := .tuple #[NV Nt.zero, .bool false]) (by simp [results, Try.results66, go_sem, NV, Nt.zero, r0, r1, r2]) rfl ?_
      rw [HE.out]
      exact ⟨rfl, (((Bw.out).setCell (p := ⟨w.heap.size + 1, 0, none⟩) (by simp) _).setCell (p := ⟨w.heap.size + 1, 1, none⟩) (by simp) _).setCell (p := ⟨w.heap.size + 1, 2, none⟩) (by simp) _⟩
set_option maxRecDepth 100000 in
set_option maxHeartbeats 1000000 in
theorem RSame_calls (t u : Nat) (v v' : Value) (a b : List Nt) (ha : a.length ≤ maxLen) (hb : b.length ≤ maxLen) (w : World) (hA : NS v a w) (hB : NS v' b w) :
    Calls Try.prog 63 #[.agg #[.int .u64 (t : Int), v], .agg #[.int .u64 (u : Int), v']] w fun e w' => e = .returned (.bool (decide (t = u) && same a b)) ∧ Below w.heap.size w w' := by
  unfold maxLen at ha hb
  have hb2 := (((Below.refl w.heap.size w).alloc (by simp) (.cells #[.int .u64 (t : Int), v] 87)).alloc (by simp) (.cells #[.int .u64 (u : Int), v'] 87))
  have B2 := Lib.hid hb2
  have F0 := Lib.hid ((Has.new w #[.int .u64 (t : Int), v] 87).alloc (.cells #[.int .u64 (u : Int), v'] 87))
  have F1 := Has.new (w.alloc (.cells #[.int .u64 (t : Int), v] 87)) #[.int .u64 (u : Int), v'] 87
  rw [show (w.alloc (.cells #[.int .u64 (t : Int), v] 87)).heap.size = w.heap.size + 1 by simp] at F1
  have F1 := Lib.hid F1
  obtain ⟨A, c, rfl, -, hA⟩ := hA.below hb2
  obtain ⟨A', c', rfl, -, hB⟩ := hB.below hb2
  have HA := Lib.hid hA
  have HBB := Lib.hid hB
  clear hA hB hb2
  by_cases h : t = u
  · subst h
    by_cases hlen : a.length = b.length
    · go_enter Try.func63, Try.ntmps63
      have hle' : ((a.length : Int) != (b.length : Int)) = false := by simp [hlen]
      have HL := Lib.hid hlen
      clear hlen
      go_wp2_with fail
      generalize (w.alloc (.cells #[.int .u64 (t : Int), .slice A a.length c] 87)).alloc (.cells #[.int .u64 (t : Int), .slice A' b.length c'] 87) = w0 at *
      go_loopw [23] (fun i wr => ∃ k : Nat, k ≤ a.length ∧ i = .int .i64 k ∧ Hid (Below w0.heap.size w0 wr) ∧ Hid (∀ i, i < k → a.getD i default = b.getD i default)) (fun i _ => a.length - (intOf i).toNat)
      case atStart => exact ⟨0, by omega, rfl, Lib.hid (Below.refl _ _), Lib.hid (fun i h => absurd h (Nat.not_lt_zero i))⟩
      case round =>
        obtain ⟨k, hk, rfl, hW, hP⟩ := hrel
        have Fa := Lib.hid (F0.out.below hW.out)
        have Fb := Lib.hid (F1.out.below hW.out)
        have y1 := Fa.out.cell 1
        have z1 := Fb.out.cell 1
        have Bw := Lib.hid (bthen B2.out hW.out)
        by_cases hlt : k < a.length
        · have hlb : k < b.length := by have := HL.out; omega
          obtain ⟨g, o, rfl, hg, hi⟩ := (HA.out.below hW.out) (by omega)
          obtain ⟨g', o', rfl, hg', hi'⟩ := (HBB.out.below hW.out) (by omega)
          obtain ⟨c0, c1, c2⟩ := hi k hlt
          obtain ⟨d0, d1, d2⟩ := hi' k hlb
          clear hi hi'
          by_cases he : a.getD k default = b.getD k default
          · have hP2 := Lib.hid (show ∀ i, i < k + 1 → a.getD i default = b.getD i default from fun i h => by
              rcases Nat.lt_succ_iff_lt_or_eq.1 h with h | rfl
              · exact hP.out i h
              · exact he)
            rw [← he] at d0 d1 d2
            clear he
            generalize a.getD k default = x at *
            go_wp2_with fail
            go_region
            go_wp2_with fail
            exact ⟨⟨k + 1, by omega, by go_num, Lib.hid hW.out.drew, hP2⟩, by simp [intOf]; omega⟩
          · have hE := Lib.hid (show same a b = false from same_false (fun e => he (by rw [e])))
            have hq := Nt.apart he
            clear he
            generalize a.getD k default = x at *
            generalize b.getD k default = y at *
            rcases hq with hq | ⟨q1, hq⟩ | ⟨q1, q2, hq⟩
            · go_wp2_with fail
              go_region
              go_wp2_with fail
              go_ret
              rw [hE.out, Bool.and_false]
              exact ⟨rfl, Bw.out.drew⟩
            · rw [q1] at c0
              clear q1
              go_wp2_with fail
              go_region
              go_wp2_with fail
              go_ret
              rw [hE.out, Bool.and_false]
              exact ⟨rfl, Bw.out.drew⟩
            · rw [q1] at c0
              rw [q2] at c1
              clear q1 q2
              go_wp2_with fail
              go_region
              go_wp2_with fail
              go_ret
              rw [hE.out, Bool.and_false]
              exact ⟨rfl, Bw.out.drew⟩
        · obtain rfl : k = a.length := by omega
          have hE := Lib.hid (show same a b = true from same_true (ext_getD a b HL.out hP.out))
          go_wp2_with fail
          go_ret
          rw [hE.out]
          exact ⟨by simp, Bw.out⟩
    · have hE := Lib.hid (show same a b = false from same_false (fun e => hlen (by rw [e])))
      have hle' : ((a.length : Int) != (b.length : Int)) = true := by simp; omega
      go_enter Try.func63, Try.ntmps63
      go_wp2_with fail
      go_ret
      rw [hE.out, Bool.and_false]
      exact ⟨rfl, B2.out⟩
  · have h' : ((t : Int) != (u : Int)) = true := by simp; omega
    have HD := Lib.hid (show decide (t = u) = false from decide_eq_false h)
    clear h
    go_enter Try.func63, Try.ntmps63
    go_wp2_with fail
    go_ret
    rw [HD.out]
    exact ⟨rfl, B2.out⟩
end Go.Proofs.Ytopacbmdoognjaa.Not
