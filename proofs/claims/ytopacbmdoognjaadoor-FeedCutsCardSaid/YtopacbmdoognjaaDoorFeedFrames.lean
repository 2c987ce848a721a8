/- Frames among the arguments, opened; the walk of FeedFrames. -/
import Derived.Test.YtopacbmdoognjaaDoorFeedConcat
import Derived.Test.YtopacbmdoognjaaDoorOpen
namespace Go.Proofs.YtopacbmdoognjaaDoor.Fd
open Go Go.RowKit Go.ChangeShapes Go.WideShapes Frame Oct Frm
theorem open_nil {P : Program} {H : Type} {enc : TypeId × Value → H} {w : World} {base : Nat} {spare : Nat → Bool} {held : Bool} {t e : TypeId} {A : Option Addr} {n c : Nat} {d : DataW H} {p : List MemPlace}
    (ht : P.underlying t = some (.slice e)) (h : DataW.Trod enc P w base spare held t (.slice A n c) d p) : A = none → n = 0 ∧ c = 0 := by
  obtain ⟨fuel, hf⟩ := h
  rcases Go.Deep.open_slice ht hf with ⟨hcs, _⟩ | ⟨a, len', cap', m, k, D, Pl, hcs, _⟩
  · simp [Value.cells] at hcs
    exact fun _ => hcs.2
  · simp [Value.cells] at hcs
    intro hA
    rw [hA] at hcs
    exact absurd hcs.1 (by simp)
set_option maxRecDepth 100000 in
theorem open_frames {H : Type} {enc : TypeId × Value → H} {w : World} {base : Nat} {spare : Nat → Bool} {held : Bool} {r : Reach} {b0 : Nat} {v : Value} {d : DataW H} {p : List MemPlace}
    (hv : Value.okWide Tryd.prog w r b0 68 v) (h : DataW.Trod enc Tryd.prog w base spare held 68 v d p) :
    ∃ (A : Option Addr) (c : Nat) (l : List Fm), v = .slice A l.length c ∧ l.length ≤ maxLen ∧ FrS A l w ∧ (∀ x ∈ l, x.body.length ≤ maxLen) ∧ (A = none → l.length = 0 ∧ c = 0) := by
  obtain ⟨A, len, cap, rfl, hlen, hrow⟩ := Open.open_rows Tryd.underlying68 Tryd.underlying35 (by kernel_rfl) (by kernel_rfl) (by decide) hv h
  have hnil := open_nil Tryd.underlying68 h
  by_cases h0 : 0 < len
  · obtain ⟨b, off, rfl, hr⟩ := hrow h0
    have hex : ∀ i, i < len → ∃ x : Fm, FAt b (off + i * 3) x w ∧ x.body.length ≤ maxLen := fun i hi => by
      obtain ⟨x0, y0, m0, c0, t0⟩ := hr i hi 0 _ rfl
      obtain ⟨x1, y1, m1, c1, t1⟩ := hr i hi 1 _ rfl
      obtain ⟨x2, y2, m2, c2, t2⟩ := hr i hi 2 _ rfl
      obtain ⟨n, rfl⟩ := Open.byte_cell Tryd.underlying5 t0
      obtain ⟨k, rfl⟩ := Open.byte_cell Tryd.underlying5 t1
      obtain ⟨s, rfl, hs⟩ := Open.str_cell Tryd.underlying9 t2
      exact ⟨⟨n, k, s.data.toList⟩, ⟨c0, c1, by rw [bs_self]; exact c2⟩, by simpa using hs⟩
    obtain ⟨l, rfl, hl⟩ := Open.list_of len _ hex
    refine ⟨_, cap, l, rfl, hlen, fun _ => ⟨b, off, rfl, Sg.cell_lt (hl 0 h0).1.1, fun i hi => (hl i hi).1⟩, fun x hx => ?_, hnil⟩
    obtain ⟨i, hi, rfl⟩ := List.getElem_of_mem hx
    have := (hl i hi).2
    simpa [List.getD_eq_getElem?_getD, hi] using this
  · obtain rfl : len = 0 := by omega
    exact ⟨A, cap, [], rfl, Nat.zero_le _, (fun h => absurd h (Nat.lt_irrefl 0)), (fun x hx => by cases hx), hnil⟩
theorem flatMap_take_succ (l : List Fm) (k : Nat) (h : k < l.length) : (l.take (k + 1)).flatMap Frm.bytes = (l.take k).flatMap Frm.bytes ++ Frm.bytes (l.getD k default) := by
  rw [take_succ_getD l k h, List.flatMap_append]
  simp
theorem flatMap_len (l : List Fm) (m : Nat) (h : ∀ x ∈ l, x.body.length ≤ m) : (l.flatMap Frm.bytes).length ≤ l.length * (m + 9) := by
  induction l with
  | nil => simp
  | cons x l ih =>
    have h1 := h x (by simp)
    have h2 := ih fun y hy => h y (by simp [hy])
    rw [List.flatMap_cons, List.length_append, bytes_length, List.length_cons, Nat.succ_mul]
    omega
set_option maxRecDepth 100000 in
set_option maxHeartbeats 1600000 in
theorem FeedFrames_walk (A : Option Addr) (c : Nat) (l : List Fm) (hl : l.length ≤ maxLen) (ho : ∀ x ∈ l, x.body.length ≤ maxLen) (w : World) (hT : Crc.Tab w) (hA : FrS A l w) :
    Calls Tryd.prog 16 #[.slice A l.length c] w fun e w' => e = .returned (.bool true) ∧ Below w.heap.size w w' := by
  have HT := Lib.hid hT
  have HA := Lib.hid hA
  have HOK := Lib.hid ho
  unfold maxLen at hl
  clear hT hA ho
  go_enter Tryd.func16, Tryd.ntmps16
  go_wp2_with fail
  refine (awake_calls _ HT.out).mono ?_
  rintro e w1 ⟨rfl, b1⟩
  have HT1 := Lib.hid (HT.out.below b1)
  have HA1 := Lib.hid (HA.out.below b1)
  have B1 := Lib.hid b1
  clear b1 HT HA
  by_cases h8 : 8 < l.length
  · go_wp2_with fail
    go_ret
    exact ⟨rfl, B1.out⟩
  · have HBY := Lib.hid (fun f h W ht => Bytes_calls f h W ht)
    unfold FV at HBY
    go_wp2_with fail
    go_loopw [3, 19] (fun s i wr => ∃ k : Nat, k ≤ l.length ∧ i = .int .i64 k ∧ s = .string (bs ((l.take k).flatMap Frm.bytes)) ∧ Hid (Below w.heap.size w wr) ∧ Hid (Below w1.heap.size w1 wr) ∧ Hid (∀ x ∈ l.take k, x.body.length ≤ 200)) (fun _ i _ => l.length - (intOf i).toNat)
    case atStart => exact ⟨0, by omega, rfl, rfl, B1, Lib.hid (Below.refl _ _), Lib.hid (fun x hx => by cases hx)⟩
    case round =>
      obtain ⟨k, hk, rfl, rfl, hB, hB1, hP⟩ := hrel
      by_cases hlt : k < l.length
      · obtain ⟨b, off, rfl, hbl, hi⟩ := (HA1.out.below hB1.out) (by omega)
        obtain ⟨c0, c1, c2⟩ := hi k hlt
        have HF := Lib.hid (flatMap_take_succ l k hlt)
        have HTS := Lib.hid (take_succ_getD l k hlt)
        have hxm := HOK.out _ (getD_mem l k hlt)
        unfold maxLen at hxm
        have hfl := flatMap_len (l.take k) 200 (fun x hx => hP.out x hx)
        rw [List.length_take, Nat.min_eq_left hk] at hfl
        clear hi
        generalize l.getD k default = x at *
        generalize (l.take k).flatMap Frm.bytes = S at *
        have hzx : (bs x.body).size = x.body.length := bs_size _
        have hzS : (bs S).size = S.length := bs_size _
        have hsB := hB.out.size
        have hsB1 := hB1.out.size
        have HX := Lib.hid (Has.new wr #[.int .u8 x.ch.toNat, .int .u8 x.kd.toNat, .string (bs x.body)] 35)
        have b2 := (Below.refl wr.heap.size wr).alloc (Nat.le_refl _) (.cells #[.int .u8 x.ch.toNat, .int .u8 x.kd.toNat, .string (bs x.body)] 35)
        have HB2 := Lib.hid (bthen hB.out b2)
        have HBB := Lib.hid (bthen hB1.out b2)
        have HT2 := Lib.hid ((HT1.out.below hB1.out).below b2)
        clear b2
        by_cases h200 : 200 < x.body.length
        · go_wp2_with fail
          go_ret
          exact ⟨rfl, HB2.out⟩
        · have hzb : (bs (Frm.bytes x)).size = x.body.length + 9 := by rw [bs_size, bytes_length]
          have hap : bs S ++ bs (Frm.bytes x) = bs (S ++ Frm.bytes x) := bs_append _ _
          have hcc : S.length + (x.body.length + 9) ≤ 9223372036854775807 := by omega
          go_wp2_with fail
          refine (HBY.out x (by omega) _ HT2.out).mono ?_
          rintro e w3 ⟨rfl, b3⟩
          have HB3 := Lib.hid (bthen HB2.out b3)
          have HBB3 := Lib.hid (bthen HBB.out b3)
          clear b3
          go_wp2_with fail
          refine ⟨⟨k + 1, by omega, by go_num, by rw [HF.out], HB3, HBB3, Lib.hid (fun y hy => ?_)⟩, by simp [intOf]; omega⟩
          rw [HTS.out] at hy
          rcases List.mem_append.1 hy with hy | hy
          · exact hP.out y hy
          · rw [List.mem_singleton.1 hy]; omega
      · obtain rfl : k = l.length := by omega
        have hP := hP.out
        rw [List.take_length] at hP ⊢
        have hfl := flatMap_len l 200 hP
        have HTK := Lib.hid (fun W h => Take_calls ([], 0) (l.flatMap Frm.bytes) (by simp only [List.length_nil]; omega) W h)
        rw [show take ([], 0) (l.flatMap Frm.bytes) = (([], 0), l) by unfold take; rw [if_neg (by simp), List.nil_append, all_bytes l (fun x hx => by have := hP x hx; omega)]] at HTK
        have HTE := Lib.hid (fun W h => Take_calls ([], 0) [] (by decide) W h)
        rw [show take ([], 0) [] = (([], 0), []) by unfold take; rw [if_neg (by simp), List.nil_append, all_nil]] at HTE
        have HR := Lib.hid (fun W => Rest_calls ([], 0) W)
        have HE := Lib.hid (fun W => Err_calls ([], 0) W)
        have h0 := Sg.bs_eq_empty [] rfl
        unfold DV at HTK HTE HR HE
        simp only at HTK HTE HR HE
        have HT2 := Lib.hid (HT1.out.below hB1.out)
        have HA2 := Lib.hid (HA1.out.below hB1.out)
        clear hP hfl
        generalize l.flatMap Frm.bytes = S at *
        go_wp2_with fail
        refine (HTK.out _ HT2.out).mono ?_
        rintro e w3 ⟨v3, rfl, hv3, -, b3⟩
        have b3' := bthen b3 ((Below.refl w3.heap.size w3).alloc (Nat.le_refl _) (.cells #[.string (bs []), .int .i64 0] 67))
        have HT3 := Lib.hid (HT2.out.below b3')
        have HA3 := Lib.hid (HA2.out.below b3')
        have B3 := Lib.hid (bthen hB.out b3')
        have V3 := Lib.hid (hv3.below ((Below.refl w3.heap.size w3).alloc (Nat.le_refl _) (.cells #[.string (bs []), .int .i64 0] 67)))
        have H3 := Lib.hid (Has.new w3 #[.string (bs []), .int .i64 0] 67)
        clear b3 b3' hv3 HT2 HA2
        go_wp2_with fail
        generalize w3.alloc (.cells #[.string (bs []), .int .i64 0] 67) = w3a at *
        generalize w3.heap.size = p3 at *
        refine (HTE.out _ HT3.out).mono ?_
        rintro e w4 ⟨v4, rfl, hv4, -, b4⟩
        have b4' := bthen b4 ((Below.refl w4.heap.size w4).alloc (Nat.le_refl _) (.cells #[.string (bs []), .int .i64 0] 67))
        have HA4 := Lib.hid (HA3.out.below b4')
        have B4 := Lib.hid (bthen B3.out b4')
        have V4 := V3.out.below b4'
        have H4 := Lib.hid (H3.out.below b4')
        have G4 := Lib.hid (Has.new w4 #[.string (bs []), .int .i64 0] 67)
        obtain ⟨A4, c4, rfl, -⟩ := hv4
        obtain ⟨A3, c3, rfl, -, -, -, hs3⟩ := V4
        have S3 := Lib.hid hs3
        clear b4 b4' hs3 V3 H3 HA3 HT3
        have HQ := Lib.hid (fun W h1 h2 => EqualF_calls A A3 c c3 l (by unfold maxLen; omega) W h1 h2)
        simp only [List.length_nil]
        go_wp2_with fail
        generalize w4.alloc (.cells #[.string (bs []), .int .i64 0] 67) = w4a at *
        generalize w4.heap.size = p4 at *
        refine (HQ.out _ HA4.out S3.out).mono ?_
        rintro e w5 ⟨rfl, b5⟩
        have H5 := Lib.hid (H4.out.below b5)
        have G5 := Lib.hid (G4.out.below b5)
        have B5 := Lib.hid (bthen B4.out b5)
        clear b5 H4 G4
        have y0 := H5.out.cell 0
        have y1 := H5.out.cell 1
        go_wp2_with fail
        refine (HR.out _).mono ?_
        rintro e w6 ⟨rfl, b6⟩
        have H6 := Lib.hid (H5.out.below b6)
        have G6 := Lib.hid (G5.out.below b6)
        have B6 := Lib.hid (bthen B5.out b6)
        clear b6 H5 G5 y0 y1
        have y0 := H6.out.cell 0
        have y1 := H6.out.cell 1
        go_wp2_with fail
        refine (HE.out _).mono ?_
        rintro e w7 ⟨rfl, b7⟩
        have G7 := Lib.hid (G6.out.below b7)
        have B7 := Lib.hid (bthen B6.out b7)
        clear b7 H6 G6 y0 y1
        have y0 := G7.out.cell 0
        have y1 := G7.out.cell 1
        go_wp2_with fail
        refine (HR.out _).mono ?_
        rintro e w8 ⟨rfl, b8⟩
        have G8 := Lib.hid (G7.out.below b8)
        have B8 := Lib.hid (bthen B7.out b8)
        clear b8 G7 y0 y1
        have y0 := G8.out.cell 0
        have y1 := G8.out.cell 1
        go_wp2_with fail
        refine (HE.out _).mono ?_
        rintro e w9 ⟨rfl, b9⟩
        have B9 := Lib.hid (bthen B8.out b9)
        clear b9
        go_wp2_with fail
        go_ret
        exact ⟨rfl, B9.out⟩
end Go.Proofs.YtopacbmdoognjaaDoor.Fd
