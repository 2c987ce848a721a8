/- The walks of stairwellref19: Add, Get, Same. -/
import Derived.Test.YtopacbmdoognjaaNotesOf
namespace Go.Proofs.Ytopacbmdoognjaa.Not
open Go Go.RowKit Frame
theorem three4 (w : World) (c0 c1 c2 : Array Value) (t0 t1 t2 : TypeId) :
    Has w.heap.size c0 t0 (((w.alloc (.cells c0 t0)).alloc (.cells c1 t1)).alloc (.cells c2 t2)) ∧ Has (w.heap.size + 1) c1 t1 (((w.alloc (.cells c0 t0)).alloc (.cells c1 t1)).alloc (.cells c2 t2)) ∧ Has (w.heap.size + 1 + 1) c2 t2 (((w.alloc (.cells c0 t0)).alloc (.cells c1 t1)).alloc (.cells c2 t2)) := by
  have e1 : ∀ (W : World) (o : Obj), (W.alloc o).heap.size = W.heap.size + 1 := fun W o => by simp
  refine ⟨((Has.new w c0 t0).alloc _).alloc _, ?_, three3 w c0 c1 c2 t0 t1 t2⟩
  have h := (Has.new (w.alloc (.cells c0 t0)) c1 t1).alloc (.cells c2 t2)
  rw [e1] at h
  exact h
theorem NS.own_drop {base g cap n r : Nat} {e : TypeId} {l : List Nt} {w : World} (h : w.ownsRow base e 3 (.slice (some ⟨g, 0, none⟩) n cap) n (css l)) (k m c : Nat) (hk : k ≤ l.length) (hm : l.length - k = m) (hr : r < base) (x y : Value) :
    NS (.slice (some ⟨g, k * 3, none⟩) m c) (l.drop k) ((w.setCell ⟨r, 0, none⟩ x).setCell ⟨r, 1, none⟩ y) := by
  have hg := (h.lt g rfl).1
  have hne : (Value.slice (some ⟨g, 0, none⟩) n cap).ownBlock ≠ some r := by simp [Value.ownBlock]; omega
  have h2 := ownsRow_setCell_other (ownsRow_setCell_other h (a := ⟨r, 0, none⟩) hne x) (a := ⟨r, 1, none⟩) hne y
  have h3 := Nts.of_own h2 k hk
  subst hm
  exact ⟨some ⟨g, k * 3, none⟩, c, by simp, (fun h => by cases h), h3⟩
theorem own_some {w : World} {B e size n : Nat} {v : Value} {xs : List Value} (h : w.ownsRow B e size v n xs) (h0 : 0 < n) : ∃ g cap, v = .slice (some ⟨g, 0, none⟩) n cap ∧ n ≤ cap ∧ cap ≤ maxLen := by
  rcases h.2 with ⟨_, hz⟩ | ⟨g, cap, cur, hv, _, _, h1, h2, _⟩
  · omega
  · exact ⟨g, cap, hv, h1, h2⟩
set_option maxRecDepth 100000 in
set_option maxHeartbeats 1000000 in
theorem RAdd_calls (tot : Nat) (ht : tot < 18446744073709551616) (l : List Nt) (hl : l.length ≤ 32) (v : Value) (x : Nt) (hx : x.text.size ≤ maxLen) (w : World) (h : NS v l w) :
    Calls Try.prog 65 #[.agg #[.int .u64 (tot : Int), v], NV x] w fun e w' =>
      ∃ v', e = .returned (.tuple #[.agg #[.int .u64 ((addN tot l x).1 : Int), v'], .int .i64 (addN tot l x).2.2]) ∧ NS v' (addN tot l x).2.1 w' ∧ Below w.heap.size w w' ∧ (v' = v ∨ ∀ g, v'.ownBlock = some g → w.heap.size ≤ g) := by
  have HS := Lib.hid h
  obtain ⟨A, c, rfl, hA, hN⟩ := h
  unfold maxLen at hx
  unfold NV
  have B3 := Lib.hid (bbox (bbox (bbox (Below.refl w.heap.size w) (.cells #[.int .u64 (tot : Int), .slice A l.length c] 87) (by simp)) (.cells #[.int .u64 x.tick, .int .u8 x.kind.toNat, .string x.text] 93) (by simp)) (.cells #[.int .u64 0, .slice none 0 0] 87) (by simp; omega))
  have HA := Lib.hid hA
  clear hA
  by_cases hlong : 64 < x.text.size
  · have HE := Lib.hid (show addN tot l x = (tot, l, 5) from if_pos hlong)
    go_enter Try.func65, Try.ntmps65
    go_wp2_with fail
    refine bodyPost_ret (v := .tuple #[.agg #[.int .u64 (tot : Int), .slice A l.length c], .int .i64 5]) (by simp [results, Try.results65, go_sem]) rfl ?_
    rw [HE.out]
    exact ⟨_, rfl, HS.out.below (all3 w _ _ _), all3 w _ _ _, .inl rfl⟩
  · by_cases htot : tot = 18446744073709551615
    · subst htot
      have HE := Lib.hid (show addN 18446744073709551615 l x = (18446744073709551615, l, 18) by unfold addN; rw [if_neg hlong, if_pos rfl])
      go_enter Try.func65, Try.ntmps65
      go_wp2_with fail
      refine bodyPost_ret (v := .tuple #[.agg #[.int .u64 18446744073709551615, .slice A l.length c], .int .i64 18]) (by simp [results, Try.results65, go_sem]) rfl ?_
      rw [HE.out]
      exact ⟨_, rfl, HS.out.below (all3 w _ _ _), all3 w _ _ _, .inl rfl⟩
    · have HE := Lib.hid (show addN tot l x = (tot + 1, (l ++ [x]).drop (l.length + 1 - 32), 0) by unfold addN; rw [if_neg hlong, if_neg htot])
      have hne : ((tot : Int) == 18446744073709551615) = false := by simp; omega
      have hwr : IntKind.u64.wrap ((tot : Int) + 1) = (tot : Int) + 1 := by rw [IntKind.wrap_u64]; omega
      obtain ⟨i0, hi0, hz0, hz1, hz2⟩ := info_parts infoM
      obtain ⟨F0, F1, F2⟩ := three4 w #[.int .u64 (tot : Int), .slice A l.length c] #[.int .u64 x.tick, .int .u8 x.kind.toNat, .string x.text] #[.int .u64 0, .slice none 0 0] 87 93 87
      have F0 := Lib.hid F0
      have F1 := Lib.hid F1
      have F2 := Lib.hid F2
      have N0 := Lib.hid (hN.below B3.out)
      clear hN htot
      have hsz0 : (((w.alloc (.cells #[.int .u64 (tot : Int), .slice A l.length c] 87)).alloc (.cells #[.int .u64 x.tick, .int .u8 x.kind.toNat, .string x.text] 93)).alloc (.cells #[.int .u64 0, .slice none 0 0] 87)).heap.size = w.heap.size + 1 + 1 + 1 := by simp
      go_enter Try.func65, Try.ntmps65
      have tok : True := trivial
      go_wp2_with (at_builtin; have _t := tok; refine append_any _ rfl _ _ 85 rfl (w.heap.size + 1 + 1 + 1) 93 i0 _ 3 32 Try.underlying85 hi0 hz0 hz1 hz2 rfl (by decide) (.slice none 0 0) 0 [] rfl (World.ownsRow_nil _ _ _ _) A l.length c (css l) rfl (css_length l) HA.out N0.out.cells (css_oneCell l) ?c3 ?c4 ?c5 ?_; clear _t tok)
      case c3 => unfold maxLen; omega
      case c4 => omega
      case c5 => rw [hsz0]; exact Nat.le_refl _
      intro v5 w5 hown5 hgrow5
      have b5 := below_grown (Below.refl _ _) hgrow5 (Nat.le_refl _) (fun g hg => by simp [Value.ownBlock] at hg)
      have F0a := Lib.hid (F0.out.below b5)
      have F1a := Lib.hid (F1.out.below b5)
      have F2a := Lib.hid (F2.out.below b5)
      have B5 := Lib.hid (bthen B3.out b5)
      have hw5 : w.heap.size + 1 + 1 + 1 ≤ w5.heap.size := by have := b5.size; rw [hsz0] at this; exact this
      have O5 := Lib.hid hown5
      clear hown5 hgrow5 b5 hsz0
      have x0 := F1a.out.cell 0
      have x1 := F1a.out.cell 1
      have x2 := F1a.out.cell 2
      have hb6 := (Below.refl w5.heap.size w5).alloc (Nat.le_refl _) (.cells #[.int .u64 x.tick, .int .u8 x.kind.toNat, .string x.text] 93)
      have O6 := Lib.hid (own_below O5.out hb6)
      have X6 := Lib.hid (Nts.one (Has.new w5 #[.int .u64 x.tick, .int .u8 x.kind.toNat, .string x.text] 93))
      have F0b := Lib.hid (F0a.out.below hb6)
      have F2b := Lib.hid (F2a.out.below hb6)
      have B6 := Lib.hid (bthen B5.out hb6)
      clear hb6 O5 F0 F1 F2
      have tok : True := trivial
      go_wp2_with (at_builtin; have _t := tok; refine wpList_append_own _ rfl _ _ 85 rfl (w.heap.size + 1 + 1 + 1) 93 i0 _ 3 32 Try.underlying85 hi0 hz0 hz1 hz2 rfl (by decide) _ l.length (css l) rfl O6.out ⟨w5.heap.size, 0, none⟩ 1 1 (css [x]) rfl (css_length [x]) ?c1 ?c2 ?c3 ?c4 ?c5 ?_; clear _t tok)
      case c1 => exact X6.out.cells _ rfl
      case c2 => exact css_oneCell [x]
      case c3 => unfold maxLen; omega
      case c4 => omega
      case c5 => simp; omega
      intro v7 w7 hown7 hgrow7 _
      have hrow : ∀ g, v5.ownBlock = some g → w.heap.size + 1 + 1 + 1 ≤ g := fun g hg => (O6.out.lt g hg).1
      have F0c := Lib.hid (has_grown F0b.out hgrow7 (fun e => by have := hrow _ e.symm; omega))
      have F2c := Lib.hid (has_grown F2b.out hgrow7 (fun e => by have := hrow _ e.symm; omega))
      have B7 := Lib.hid (below_grown B6.out hgrow7 (by simp; omega) (fun g hg => by have := hrow _ hg; omega))
      rw [← css_append] at hown7
      have O7 := Lib.hid hown7
      obtain ⟨g, cap, rfl, hcap1, hcap2⟩ := own_some hown7 (by omega)
      unfold maxLen at hcap2
      clear hown7 hgrow7 hrow F0b F2b O6 X6 x0 x1 x2
      have y0 := F0c.out.cell 0
      have r0 := F2c.out.cell 0
      have r1 := F2c.out.cell 1
      have rf := F2c.out.frozen
      have hlx : (l ++ [x]).length = l.length + 1 := by simp
      have hB7 := Lib.hid (fun a b => (B7.out.setCell (p := ⟨w.heap.size + 1 + 1, 0, none⟩) (by simp; omega) a).setCell (p := ⟨w.heap.size + 1 + 1, 1, none⟩) (by simp; omega) b)
      have hg := Lib.hid (O7.out.lt g rfl).1
      by_cases h32 : l.length = 32
      · have HE2 := Lib.hid (show addN tot l x = (tot + 1, (l ++ [x]).drop 1, 0) by rw [HE.out, h32])
        have HL2 := Lib.hid (show (l ++ [x]).length = 33 by rw [hlx, h32])
        have hc1 : ¬ cap = 1 := by omega
        rw [h32] at *
        go_wp2_with fail
        refine bodyPost_ret (v := .tuple #[.agg #[.int .u64 ((tot : Int) + 1), .slice (some ⟨g, 3, none⟩) 32 (cap - 1)], .int .i64 0]) (by simp [results, Try.results65, go_sem, r0, r1]) rfl ?_
        rw [HE2.out]
        exact ⟨_, rfl, NS.own_drop O7.out 1 32 (cap - 1) (by rw [HL2.out]; decide) (by rw [HL2.out]) (show w.heap.size + 1 + 1 < w.heap.size + 1 + 1 + 1 by omega) _ _, hB7.out _ _, .inr (fun g' h => by simp [Value.ownBlock] at h; have := hg.out; omega)⟩
      · go_wp2_with fail
        refine bodyPost_ret (v := .tuple #[.agg #[.int .u64 ((tot : Int) + 1), .slice (some ⟨g, 0, none⟩) (l.length + 1) cap], .int .i64 0]) (by simp [results, Try.results65, go_sem, r0, r1]) rfl ?_
        rw [HE.out, show l.length + 1 - 32 = 0 by omega]
        have := NS.own_drop O7.out 0 (l.length + 1) cap (by omega) (by omega) (show w.heap.size + 1 + 1 < w.heap.size + 1 + 1 + 1 by omega) (.int .u64 ((tot : Int) + 1)) (.slice (some ⟨g, 0, none⟩) (l.length + 1) cap)
        rw [Nat.zero_mul] at this
        exact ⟨_, rfl, this, hB7.out _ _, .inr (fun g' h => by simp [Value.ownBlock] at h; have := hg.out; omega)⟩
end Go.Proofs.Ytopacbmdoognjaa.Not
