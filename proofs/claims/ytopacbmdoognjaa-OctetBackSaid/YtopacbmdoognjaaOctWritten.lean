/- The walk of stairwelllaw01's written. -/
import Derived.Test.YtopacbmdoognjaaOctItems
namespace Go.Proofs.Ytopacbmdoognjaa.Oct
open Go Go.RowKit Frame
structure WrI (s : ByteArray) (b : Nat) (w wr : World) : Prop where
  r : Has b #[.string ⟨#[]⟩, .int .i64 0] 32 wr
  o : Has (b + 1) #[.string s, .int .i64 0] 32 wr
  bel : Below b w wr
theorem WrI.start (w : World) : WrI ⟨#[]⟩ w.heap.size w ((w.alloc (.cells #[.string { data := #[] }, .int .i64 0] 32)).alloc (.cells #[.string { data := #[] }, .int .i64 0] 32)) := by
  have h := Has.new (w.alloc (.cells #[.string { data := #[] }, .int .i64 0] 32)) #[.string { data := #[] }, .int .i64 0] 32
  simp only [World.size_alloc] at h
  exact ⟨(Has.new w _ _).alloc _, h, ((Below.refl _ _).alloc (Nat.le_refl _) _).alloc (by simp) _⟩
theorem WrI.next {s s' : ByteArray} {b : Nat} {w wr w1 : World} (h : WrI s b w wr) (hb : Below wr.heap.size wr w1) : WrI s' b w ((w1.setCell ⟨b + 1, 0, none⟩ (.string s')).setCell ⟨b + 1, 1, none⟩ (.int .i64 0)) := by
  have h1 := (h.o.below hb).set (i := 0) (.string s')
  have h2 := h1.set (i := 1) (.int .i64 0)
  refine ⟨((h.r.below hb).set_other (by simp) _).set_other (by simp) _, h2, ?_⟩
  have := h.o.lt
  exact ((h.bel.trans (hb.mono (by omega))).setCell (Nat.le_succ _) _).setCell (Nat.le_succ _) _
theorem item_case (x : Item) : (x.kind = 0 → item x = be (wid x.bytes) x.num) ∧ (x.kind ≠ 0 → x.kind = 1 → item x = txt x.text.data.toList) ∧ (x.kind ≠ 0 → x.kind ≠ 1 → item x = x.text.data.toList) := by
  refine ⟨fun h => by rw [item, if_pos h], fun h h1 => by rw [item, if_neg h, if_pos h1], fun h h1 => by rw [item, if_neg h, if_neg h1]⟩
theorem bs_len_le {l : List UInt8} {n : Nat} (h : l.length ≤ n) : (bs l).size ≤ n := by rw [bs_size]; exact h
theorem taken_le (l : List Item) (k : Nat) (hn : l.length ≤ 20) (h : ∀ x ∈ l, x.text.size ≤ 100) : (bs (items (l.take k))).size ≤ 4000 := by
  rw [bs_size]
  have := items_le (l.take k) fun x hx => h x (List.mem_of_mem_take hx)
  have h2 : (l.take k).length ≤ l.length := by rw [List.length_take]; omega
  omega
theorem bs_grow (l : List Item) (x : Item) (k : Nat) (hT : l.take (k + 1) = l.take k ++ [x]) (v : List UInt8) (h : item x = v) : bs ((bs (items (l.take k))).data.toList ++ v) = bs (items (l.take (k + 1))) := by
  rw [bs_toList, hT, items_snoc, h]
set_option maxRecDepth 100000 in
set_option maxHeartbeats 1000000 in
theorem written_calls (A : Option Addr) (c : Nat) (l : List Item) (w : World) (hA : Items A l w) (hok : ∀ x ∈ l, x.Ok) (hl : lightB l = true) :
    Calls Try.prog 20 #[.slice A l.length c] w fun e w' => e = .returned (.agg #[.string (bs (items l)), .int .i64 0]) ∧ Below w.heap.size w w' := by
  obtain ⟨hn, ht⟩ := light_iff hl
  clear hl
  have HA := Lib.hid hA
  have HT := Lib.hid ht
  have HO := Lib.hid hok
  clear hA ht hok
  go_enter Try.func20, Try.ntmps20
  go_wp2
  go_loopw [8] (fun i wr => ∃ k : Nat, k ≤ l.length ∧ i = .int .i64 k ∧ Hid (WrI (bs (items (l.take k))) w.heap.size w wr)) (fun i _ => l.length - (intOf i).toNat)
  case atStart => exact ⟨0, by omega, rfl, Lib.hid (WrI.start w)⟩
  case round =>
    obtain ⟨k, hk, rfl, hI⟩ := hrel
    have hbl := hI.out.o.lt
    have r0 : wr.cell? ⟨w.heap.size, 0, none⟩ = some (.string ⟨#[]⟩) := hI.out.r.cell 0
    have r1 : wr.cell? ⟨w.heap.size, 1, none⟩ = some (.int .i64 0) := hI.out.r.cell 1
    have o0 : wr.cell? ⟨w.heap.size + 1, 0, none⟩ = some (.string (bs (items (l.take k)))) := hI.out.o.cell 0
    have o1 : wr.cell? ⟨w.heap.size + 1, 1, none⟩ = some (.int .i64 0) := hI.out.o.cell 1
    have p0 := hI.out.r.frozen 0
    have p1 := hI.out.r.frozen 1
    have q0 := hI.out.o.frozen 0
    have q1 := hI.out.o.frozen 1
    by_cases hlt : k < l.length
    · obtain ⟨b, off, rfl, hbw, hi⟩ := HA.out (by omega)
      obtain ⟨c0, c1, c2, c3⟩ := hi k hlt
      have hc := fun o => hI.out.bel.cell (p := ⟨b, o, none⟩) hbw
      rw [← hc] at c0 c1 c2 c3
      clear hi hc
      have HG := Lib.hid (bs_grow l _ k (take_succ_getD l k hlt))
      have HM := Lib.hid (getD_mem l k hlt)
      have hxs := HT.out _ HM.out
      obtain ⟨hxn, hxb, _⟩ := HO.out _ HM.out
      have hsz := taken_le l k hn HT.out
      generalize l.getD k default = x at *
      generalize bs (items (l.take k)) = s at *
      by_cases h0 : x.kind = 0
      · have HE := Lib.hid (HG.out _ ((item_case x).1 h0))
        have h0' : x.kind.toNat = 0 := by rw [h0]; rfl
        rw [h0'] at c0
        clear h0 h0'
        go_wp2_with fail
        refine (OutNum_calls s 0 x.num x.bytes hxb (by omega) _).mono ?_
        rintro e w1 ⟨rfl, hb1⟩
        rw [HE.out]
        have hb2 := after_alloc hb1
        have HN := Lib.hid (hI.out.next (s' := bs (items (l.take (k + 1)))) hb2)
        have g0 : w1.frozen? ⟨w.heap.size + 1, 0, none⟩ = false := (hI.out.o.below hb2).frozen 0
        have g1 : w1.frozen? ⟨w.heap.size + 1, 1, none⟩ = false := (hI.out.o.below hb2).frozen 1
        have g2 : w1.cell? ⟨w.heap.size + 1, 0, none⟩ = some (.string s) := (hI.out.o.below hb2).cell 0
        have g3 : w1.cell? ⟨w.heap.size + 1, 1, none⟩ = some (.int .i64 0) := (hI.out.o.below hb2).cell 1
        clear hb1 hb2
        go_wp2_with fail
        exact ⟨⟨k + 1, by omega, by go_num, HN⟩, by simp [intOf]; omega⟩
      · have h0' : (x.kind.toNat == 0) = false := by
          have : x.kind.toNat ≠ 0 := fun h => h0 (UInt8.toNat_inj.1 h)
          simpa using this
        by_cases h1 : x.kind = 1
        · have HE := Lib.hid (HG.out _ ((item_case x).2.1 h0 h1))
          have h1' : x.kind.toNat = 1 := by rw [h1]; rfl
          rw [h1'] at c0
          clear h0 h1 h1' h0'
          go_wp2_with fail
          refine (OutText_calls s x.text 0 (by omega) (by omega) _).mono ?_
          rintro e w1 ⟨rfl, hb1⟩
          rw [HE.out]
          have hb2 := after_alloc hb1
          have HN := Lib.hid (hI.out.next (s' := bs (items (l.take (k + 1)))) hb2)
          have g0 : w1.frozen? ⟨w.heap.size + 1, 0, none⟩ = false := (hI.out.o.below hb2).frozen 0
          have g1 : w1.frozen? ⟨w.heap.size + 1, 1, none⟩ = false := (hI.out.o.below hb2).frozen 1
          have g2 : w1.cell? ⟨w.heap.size + 1, 0, none⟩ = some (.string s) := (hI.out.o.below hb2).cell 0
          have g3 : w1.cell? ⟨w.heap.size + 1, 1, none⟩ = some (.int .i64 0) := (hI.out.o.below hb2).cell 1
          clear hb1 hb2
          go_wp2_with fail
          exact ⟨⟨k + 1, by omega, by go_num, HN⟩, by simp [intOf]; omega⟩
        · have HE := Lib.hid (HG.out _ ((item_case x).2.2 h0 h1))
          have h1' : (x.kind.toNat == 1) = false := by
            have : x.kind.toNat ≠ 1 := fun h => h1 (UInt8.toNat_inj.1 h)
            simpa using this
          clear h0 h1
          generalize x.kind.toNat = kd at *
          have h0'' : ¬ ((kd : Int) = 0) := by simp at h0'; omega
          have h1'' : ¬ ((kd : Int) = 1) := by simp at h1'; omega
          go_wp2_with fail
          refine (OutRaw_calls s x.text 0 (by omega) (by omega) _).mono ?_
          rintro e w1 ⟨rfl, hb1⟩
          rw [HE.out]
          have hb2 := after_alloc hb1
          have HN := Lib.hid (hI.out.next (s' := bs (items (l.take (k + 1)))) hb2)
          have g0 : w1.frozen? ⟨w.heap.size + 1, 0, none⟩ = false := (hI.out.o.below hb2).frozen 0
          have g1 : w1.frozen? ⟨w.heap.size + 1, 1, none⟩ = false := (hI.out.o.below hb2).frozen 1
          have g2 : w1.cell? ⟨w.heap.size + 1, 0, none⟩ = some (.string s) := (hI.out.o.below hb2).cell 0
          have g3 : w1.cell? ⟨w.heap.size + 1, 1, none⟩ = some (.int .i64 0) := (hI.out.o.below hb2).cell 1
          clear hb1 hb2
          go_wp2_with fail
          exact ⟨⟨k + 1, by omega, by go_num, HN⟩, by simp [intOf]; omega⟩
    · obtain rfl : k = l.length := by omega
      rw [List.take_length] at o0
      have hbel := Lib.hid hI.out.bel
      go_wp2_with fail
      refine bodyPost_ret (v := .agg #[.string (bs (items l)), .int .i64 0]) (by simp [results, Try.results20, go_sem, r0, r1]) rfl ⟨rfl, ?_⟩
      exact (hbel.out.setCell (Nat.le_refl _) _).setCell (Nat.le_refl _) _
end Go.Proofs.Ytopacbmdoognjaa.Oct
