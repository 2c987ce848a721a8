/- Notes.Add. -/
import Derived.Test.YtopacbmdoognjaaNotesWalk
namespace Go.Proofs.Ytopacbmdoognjaa.Not
open Go Go.RowKit Frame
/-- A slice value of these notes. -/
def NS (v : Value) (l : List Nt) (w : World) : Prop := ∃ A c, v = .slice A l.length c ∧ (A = none → l.length = 0 ∧ c = 0) ∧ Nts A l w
theorem NS.nil (w : World) : NS (.slice none 0 0) [] w := ⟨none, 0, rfl, fun _ => ⟨rfl, rfl⟩, Nts.nil _ _⟩
theorem NS.below {v : Value} {l : List Nt} {w w' : World} (h : NS v l w) (hb : Below w.heap.size w w') : NS v l w' := by
  obtain ⟨A, c, hv, hA, hn⟩ := h
  exact ⟨A, c, hv, hA, hn.below hb⟩
theorem Nts.one {q : Nat} {x : Nt} {t : TypeId} {w : World} (h : Has q #[.int .u64 x.tick, .int .u8 x.kind.toNat, .string x.text] t w) : Nts (some ⟨q, 0, none⟩) [x] w := fun _ => by
  refine ⟨q, 0, rfl, h.lt, fun i hi => ?_⟩
  obtain rfl : i = 0 := by simpa using hi
  exact ⟨h.cell 0, h.cell 1, h.cell 2⟩
theorem five (w : World) (c0 c1 c2 c3 c4 : Array Value) (t0 t1 t2 t3 t4 : TypeId) :
    Has w.heap.size c0 t0 (((((w.alloc (.cells c0 t0)).alloc (.cells c1 t1)).alloc (.cells c2 t2)).alloc (.cells c3 t3)).alloc (.cells c4 t4)) ∧
    Has (w.heap.size + 1 + 1) c2 t2 (((((w.alloc (.cells c0 t0)).alloc (.cells c1 t1)).alloc (.cells c2 t2)).alloc (.cells c3 t3)).alloc (.cells c4 t4)) ∧
    Has (w.heap.size + 1 + 1 + 1) c3 t3 (((((w.alloc (.cells c0 t0)).alloc (.cells c1 t1)).alloc (.cells c2 t2)).alloc (.cells c3 t3)).alloc (.cells c4 t4)) ∧
    Has (w.heap.size + 1 + 1 + 1 + 1) c4 t4 (((((w.alloc (.cells c0 t0)).alloc (.cells c1 t1)).alloc (.cells c2 t2)).alloc (.cells c3 t3)).alloc (.cells c4 t4)) ∧
    Below w.heap.size w (((((w.alloc (.cells c0 t0)).alloc (.cells c1 t1)).alloc (.cells c2 t2)).alloc (.cells c3 t3)).alloc (.cells c4 t4)) := by
  have e1 : ∀ (W : World) (o : Obj), (W.alloc o).heap.size = W.heap.size + 1 := fun W o => by simp
  refine ⟨((((Has.new w c0 t0).alloc _).alloc _).alloc _).alloc _, ?_, ?_, ?_, ?_⟩
  · have h := ((Has.new ((w.alloc (.cells c0 t0)).alloc (.cells c1 t1)) c2 t2).alloc (.cells c3 t3)).alloc (.cells c4 t4)
    rw [e1, e1] at h
    exact h
  · have h := (Has.new (((w.alloc (.cells c0 t0)).alloc (.cells c1 t1)).alloc (.cells c2 t2)) c3 t3).alloc (.cells c4 t4)
    rw [e1, e1, e1] at h
    exact h
  · have h := Has.new ((((w.alloc (.cells c0 t0)).alloc (.cells c1 t1)).alloc (.cells c2 t2)).alloc (.cells c3 t3)) c4 t4
    rw [e1, e1, e1, e1] at h
    exact h
  · exact (((((Below.refl w.heap.size w).alloc (by simp) _).alloc (by simp) _).alloc (by simp; omega) _).alloc (by simp; omega) _).alloc (by simp; omega) _
theorem three3 (w : World) (c0 c1 c2 : Array Value) (t0 t1 t2 : TypeId) : Has (w.heap.size + 1 + 1) c2 t2 (((w.alloc (.cells c0 t0)).alloc (.cells c1 t1)).alloc (.cells c2 t2)) := by
  have e1 : ∀ (W : World) (o : Obj), (W.alloc o).heap.size = W.heap.size + 1 := fun W o => by simp
  have h := Has.new ((w.alloc (.cells c0 t0)).alloc (.cells c1 t1)) c2 t2
  rw [e1, e1] at h
  exact h
theorem all3 (w : World) (o0 o1 o2 : Obj) : Below w.heap.size w (((w.alloc o0).alloc o1).alloc o2) :=
  (((Below.refl w.heap.size w).alloc (by simp) _).alloc (by simp) _).alloc (by simp; omega) _
/-- Behind the store of the result. -/
theorem NS.stored {base g cap n r : Nat} {e : TypeId} {l : List Nt} {w : World} (h : w.ownsRow base e 3 (.slice (some ⟨g, 0, none⟩) n cap) n (css l)) (k m c : Nat) (hk : k ≤ l.length) (hm : l.length - k = m) (hr : r < g) (x y : Value) :
    NS (.slice (some ⟨g, k * 3, none⟩) m c) (l.drop k) (((w.setCell ⟨r, 0, none⟩ x).setCell ⟨r, 1, none⟩ y).drew) := by
  have hne : (Value.slice (some ⟨g, 0, none⟩) n cap).ownBlock ≠ some r := by simp [Value.ownBlock]; omega
  have h2 := ownsRow_setCell_other (ownsRow_setCell_other h (a := ⟨r, 0, none⟩) hne x) (a := ⟨r, 1, none⟩) hne y
  have h3 := Nts.of_own h2 k hk
  subst hm
  exact ⟨some ⟨g, k * 3, none⟩, c, by simp, (fun h => by cases h), h3⟩
theorem bbox {B : Nat} {a w : World} (h : Below B a w) (o : Obj) (hB : B ≤ w.heap.size) : Below B a (w.alloc o) := h.alloc hB o
theorem Nts.set {b i : Nat} {A : Option Addr} {l : List Nt} {w : World} (h : Nts A l w) (hne : ∀ a, A = some a → a.block ≠ b) (x : Value) : Nts A l (w.setCell ⟨b, i, none⟩ x) := fun h0 => by
  obtain ⟨g, off, hA, hlt, hi⟩ := h h0
  have hb := hne _ hA
  refine ⟨g, off, hA, by simpa [World.setCell] using hlt, fun j hj => ?_⟩
  obtain ⟨c0, c1, c2⟩ := hi j hj
  have hc : ∀ o, (w.setCell ⟨b, i, none⟩ x).cell? ⟨g, o, none⟩ = w.cell? ⟨g, o, none⟩ := fun o => World.cell?_of_block (Below.heap_setCell w ⟨b, i, none⟩ x g hb)
  exact ⟨by rw [hc]; exact c0, by rw [hc]; exact c1, by rw [hc]; exact c2⟩
theorem NS.set {b i : Nat} {v : Value} {l : List Nt} {w : World} (h : NS v l w) (hne : v.ownBlock ≠ some b) (x : Value) : NS v l (w.setCell ⟨b, i, none⟩ x) := by
  obtain ⟨A, c, rfl, hA, hn⟩ := h
  exact ⟨A, c, rfl, hA, hn.set (fun a ha e => hne (by subst ha; subst e; rfl)) x⟩
theorem own_apart {v v' : Value} {b B : Nat} (h : v' = v ∨ ∀ g, v'.ownBlock = some g → B ≤ g) (hne : v.ownBlock ≠ some b) (hb : b < B) : v'.ownBlock ≠ some b := by
  rcases h with rfl | h
  · exact hne
  · intro e
    have := h _ e
    omega
set_option maxRecDepth 100000 in
set_option maxHeartbeats 1000000 in
theorem Add_calls (tot : Nat) (ht : tot < 18446744073709551616) (l : List Nt) (hl : l.length ≤ 32) (v : Value) (x : Nt) (hx : x.text.size ≤ maxLen) (w : World) (h : NS v l w) :
    Calls Try.prog 57 #[.agg #[.int .u64 (tot : Int), v], NV x] w fun e w' =>
      ∃ v', e = .returned (.tuple #[.agg #[.int .u64 ((addN tot l x).1 : Int), v'], .int .i64 (addN tot l x).2.2]) ∧ NS v' (addN tot l x).2.1 w' ∧ Below w.heap.size w w' ∧ (v' = v ∨ ∀ g, v'.ownBlock = some g → w.heap.size ≤ g) := by
  have HS := Lib.hid h
  obtain ⟨A, c, rfl, hA, hN⟩ := h
  unfold maxLen at hx
  unfold NV
  have F2 := Lib.hid (three3 w #[.int .u64 (tot : Int), .slice A l.length c] #[.int .u64 x.tick, .int .u8 x.kind.toNat, .string x.text] #[.int .u64 0, .slice none 0 0] 74 76 74)
  have B3 := Lib.hid (bbox (bbox (bbox (Below.refl w.heap.size w) (.cells #[.int .u64 (tot : Int), .slice A l.length c] 74) (by simp)) (.cells #[.int .u64 x.tick, .int .u8 x.kind.toNat, .string x.text] 76) (by simp)) (.cells #[.int .u64 0, .slice none 0 0] 74) (by simp; omega))
  have HA := Lib.hid hA
  clear hA
  by_cases hlong : 64 < x.text.size
  · have HE := Lib.hid (show addN tot l x = (tot, l, 5) from if_pos hlong)
    go_enter Try.func57, Try.ntmps57
    go_wp2_with fail
    refine bodyPost_ret (v := .tuple #[.agg #[.int .u64 (tot : Int), .slice A l.length c], .int .i64 5]) (by simp [results, Try.results57, go_sem]) rfl ?_
    rw [HE.out]
    exact ⟨_, rfl, HS.out.below (all3 w _ _ _), all3 w _ _ _, .inl rfl⟩
  · by_cases htot : tot = 18446744073709551615
    · subst htot
      have HE := Lib.hid (show addN 18446744073709551615 l x = (18446744073709551615, l, 18) by unfold addN; rw [if_neg hlong, if_pos rfl])
      go_enter Try.func57, Try.ntmps57
      go_wp2_with fail
      refine bodyPost_ret (v := .tuple #[.agg #[.int .u64 18446744073709551615, .slice A l.length c], .int .i64 18]) (by simp [results, Try.results57, go_sem]) rfl ?_
      rw [HE.out]
      exact ⟨_, rfl, HS.out.below (all3 w _ _ _), all3 w _ _ _, .inl rfl⟩
    · have HE := Lib.hid (show addN tot l x = (tot + 1, (l ++ [x]).drop (l.length + 1 - 32), 0) by unfold addN; rw [if_neg hlong, if_neg htot])
      have hne : ((tot : Int) == 18446744073709551615) = false := by simp; omega
      have hwr : IntKind.u64.wrap ((tot : Int) + 1) = (tot : Int) + 1 := by rw [IntKind.wrap_u64]; omega
      go_enter Try.func57, Try.ntmps57
      go_wp2_with fail
      obtain ⟨F0, F2, F3, F4, FB⟩ := five w #[.int .u64 (tot : Int), .slice A l.length c] #[.int .u64 x.tick, .int .u8 x.kind.toNat, .string x.text] #[.int .u64 0, .slice none 0 0] #[.int .u64 x.tick, .int .u8 x.kind.toNat, .string x.text] #[.slice A l.length c, .slice (some ⟨w.heap.size + 1 + 1 + 1, 0, none⟩) 1 1] 74 76 74 76 71
      refine (Concat_calls _ (w.heap.size + 1 + 1 + 1) A l c x (by omega) HA.out _ F4 (hN.below FB) (Nts.one F3)).mono ?_
      rintro e w6 ⟨g, cap, rfl, hg, hown, hbel⟩
      have F0 := Lib.hid (F0.below hbel)
      have F2 := Lib.hid (F2.below hbel)
      have HOW := Lib.hid hown
      have FB := Lib.hid (bthen FB hbel)
      have hcap : l.length + 1 ≤ cap ∧ cap ≤ 9223372036854775807 := by
        rcases hown.2 with ⟨h, _⟩ | ⟨g', cap', cur, he, _, _, h1, h2, _⟩
        · cases h
        · simp at he; unfold maxLen at h2; omega
      have hgne := Lib.hid (show w.heap.size + 1 + 1 < g by simp at hg; omega)
      clear hown hbel hg hN
      have k0 := F0.out.cell 0; have k1 := F0.out.cell 1
      have r0 := F2.out.cell 0; have r1 := F2.out.cell 1
      have fr := F2.out.frozen
      skip
      have BR := Lib.hid (fun x y => ((FB.out.setCell (p := ⟨w.heap.size + 1 + 1, 0, none⟩) (by simp; omega) x).setCell (p := ⟨w.heap.size + 1 + 1, 1, none⟩) (by simp; omega) y).drew)
      have hlen : (l ++ [x]).length = l.length + 1 := by simp
      by_cases h32 : l.length = 32
      · have hmx : max (0 : Int) 1 = 1 := by decide
        have hc1 : ¬ cap = 1 := by omega
        have HE2 := Lib.hid (show addN tot l x = (tot + 1, (l ++ [x]).drop 1, 0) by rw [HE.out, h32])
        have HL2 := Lib.hid (show (l ++ [x]).length = 33 by rw [hlen, h32])
        rw [h32] at *
        go_wp2_with fail
        go_region
        go_wp2_with fail
        refine bodyPost_ret (v := .tuple #[.agg #[.int .u64 ((tot : Int) + 1), .slice (some ⟨g, 3, none⟩) 32 (cap - 1)], .int .i64 0]) (by simp [results, Try.results57, go_sem, r0, r1]) rfl ?_
        rw [HE2.out]
        exact ⟨_, rfl, NS.stored HOW.out 1 32 (cap - 1) (by rw [HL2.out]; decide) (by rw [HL2.out]) hgne.out _ _, BR.out _ _, .inr (fun g' h => by simp [Value.ownBlock] at h; have := hgne.out; omega)⟩
      · have hmx : max (0 : Int) (((l.length : Int) + 1) - 32) = 0 := by omega
        go_wp2_with fail
        go_region
        go_wp2_with fail
        refine bodyPost_ret (v := .tuple #[.agg #[.int .u64 ((tot : Int) + 1), .slice (some ⟨g, 0, none⟩) (l.length + 1) cap], .int .i64 0]) (by simp [results, Try.results57, go_sem, r0, r1]) rfl ?_
        rw [HE.out, show l.length + 1 - 32 = 0 by omega]
        exact ⟨_, rfl, NS.stored HOW.out 0 (l.length + 1) cap (by omega) (by omega) hgne.out _ _, BR.out _ _, .inr (fun g' h => by simp [Value.ownBlock] at h; have := hgne.out; omega)⟩
end Go.Proofs.Ytopacbmdoognjaa.Not
