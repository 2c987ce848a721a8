/- The walk of NotesReads. -/
import Derived.Test.YtopacbmdoognjaaNotesRefRead
import Derived.Test.YtopacbmdoognjaaNotesRefBytes
import Derived.Lib.SmallJoins
namespace Go.Proofs.Ytopacbmdoognjaa.Not
open Go Go.RowKit Go.ChangeShapes Go.WideShapes Frame Oct
set_option maxRecDepth 100000 in
theorem open_note {H : Type} {enc : TypeId × Value → H} {w : World} {base : Nat} {spare : Nat → Bool} {held : Bool} {r : Reach} {b0 : Nat} {v : Value} {d : DataW H} {p : List MemPlace}
    (hv : Value.okWide Try.prog w r b0 76 v) (h : DataW.Trod enc Try.prog w base spare held 76 v d p) : ∃ x : Nt, v = NV x ∧ x.Ok := by
  obtain ⟨v0, v1, v2, y0, y1, y2, n, rfl, -, -, t0, t1, t2⟩ := Joins.open_agg3 Try.underlying76 (by kernel_rfl) (by kernel_rfl) hv h
  obtain ⟨a, rfl, ha⟩ := Open.u64_cell Try.underlying25 t0
  obtain ⟨b, rfl⟩ := Open.byte_cell Try.underlying5 t1
  obtain ⟨s, rfl, hs⟩ := Open.str_cell Try.underlying9 t2
  exact ⟨⟨a, b, s⟩, rfl, ha, hs⟩
theorem addN_ok (tot : Nat) (l : List Nt) (x : Nt) (h1 : l.length ≤ 32) (h2 : l.length ≤ tot) (h3 : tot < 18446744073709551616) : (addN tot l x).2.1.length ≤ 32 ∧ (addN tot l x).2.1.length ≤ (addN tot l x).1 ∧ (addN tot l x).1 < 18446744073709551616 := by
  unfold addN
  split
  · exact ⟨h1, h2, h3⟩
  · split
    · exact ⟨h1, h2, h3⟩
    · simp only [List.length_drop, List.length_append, List.length_cons, List.length_nil]
      omega
theorem RLeft_below (b : Nat) (S : List UInt8) (q : St) (hl : S.length ≤ maxLen) (w : World) (h : RAt b S q w) :
    Calls Try.prog 45 #[.pointer (some ⟨b, 0, none⟩)] w fun e w' => e = .returned (.int .i64 q.1.length) ∧ Below w.heap.size w w' := by
  refine (RLeft_calls b S q hl w h).mono ?_
  rintro e w' ⟨he, m, rfl⟩
  exact ⟨he, drewN_below w m⟩
theorem atBelow {b : Nat} {q : St} {w w' : World} (h : At b q w) (hb : Below w.heap.size w w') : At b q w' := Has.below h hb
theorem atDrew {b : Nat} {q : St} {w : World} (h : At b q w) : At b q w.drew := Has.drew h
theorem RSame_self (t : Nat) (v v' : Value) (a : List Nt) (ha : a.length ≤ 1000) (w : World) (hA : NS v a w) (hB : NS v' a w) :
    Calls Try.prog 63 #[.agg #[.int .u64 (t : Int), v], .agg #[.int .u64 (t : Int), v']] w fun e w' => e = .returned (.bool true) ∧ Below w.heap.size w w' := by
  have h := RSame_calls t t v v' a a (by unfold maxLen; omega) (by unfold maxLen; omega) w hA hB
  rw [same_true rfl, show (decide (t = t) && true) = true by simp] at h
  exact h
set_option maxRecDepth 100000 in
set_option maxHeartbeats 1000000 in
theorem NotesReads_walk (s : ByteArray) (x : Nt) (number : Nat) (hx : x.Ok) (hnum : number < 18446744073709551616) (w : World) :
    Calls Try.prog 13 #[.string s, NV x, .int .u64 (number : Int)] w fun e w' => e = .returned (.bool true) ∧ Below w.heap.size w w' := by
  obtain ⟨l, rfl⟩ : ∃ l, s = bs l := ⟨s.data.toList, (bs_self s).symm⟩
  have hz : (bs l).size = l.length := bs_size _
  obtain ⟨hx1, hx2⟩ := hx
  unfold NV
  have hb0 := (Below.refl w.heap.size w).alloc (Nat.le_refl _) (.cells #[.int .u64 x.tick, .int .u8 x.kind.toNat, .string x.text] 76)
  have X0 := Lib.hid (Has.new w #[.int .u64 x.tick, .int .u8 x.kind.toNat, .string x.text] 76)
  have B0 := Lib.hid hb0
  clear hb0
  go_enter Try.func13, Try.ntmps13
  go_wp2_with fail
  generalize w.alloc (.cells #[.int .u64 x.tick, .int .u8 x.kind.toNat, .string x.text] 76) = w0 at *
  refine (Awake_calls _).mono ?_
  rintro e w1 ⟨rfl, b1⟩
  have X1 := Lib.hid (X0.out.below b1)
  have B1 := Lib.hid (bthen B0.out b1)
  have hXl1 := X1.out.lt
  have x0 := X1.out.cell 0
  have x1 := X1.out.cell 1
  have x2 := X1.out.cell 2
  clear b1 X0 B0
  by_cases h10 : 1000 < l.length
  · go_wp2_with fail
    go_ret
    exact ⟨rfl, B1.out⟩
  · have hd1 : decide ((1000 : Int) < (l.length : Int)) = false := decide_eq_false (by omega)
    by_cases h80 : 80 < x.text.size
    · go_wp2_with fail
      go_ret
      exact ⟨rfl, B1.out⟩
    · have hd2 : decide ((80 : Int) < (x.text.size : Int)) = false := decide_eq_false (by omega)
      have hlm : l.length ≤ maxLen := by unfold maxLen; omega
      go_wp2_with fail
      refine (New_calls _ _).mono ?_
      rintro e w2 ⟨rfl, rfl⟩
      have hb2 := ((Below.refl w1.heap.size w1).alloc (Nat.le_refl _) (.cells #[.string (bs l), .int .i64 0] 116)).alloc (by simp) (.cells #[.string (bs l), .int .i64 0, .int .i64 0] 55)
      have I2 := Lib.hid (show At w1.heap.size (l, 0) ((w1.alloc (.cells #[.string (bs l), .int .i64 0] 116)).alloc (.cells #[.string (bs l), .int .i64 0, .int .i64 0] 55)) from (Has.new w1 _ _).alloc _)
      have q2 := RAt.new (w1.alloc (.cells #[.string (bs l), .int .i64 0] 116)) l
      rw [show (w1.alloc (.cells #[.string (bs l), .int .i64 0] 116)).heap.size = w1.heap.size + 1 by simp] at q2
      have Q2 := Lib.hid q2
      have X2 := Lib.hid (X1.out.below hb2)
      have B2 := Lib.hid (bthen B1.out hb2)
      clear hb2 q2 X1 x0 x1 x2
      go_wp2_with fail
      generalize (w1.alloc (.cells #[.string (bs l), .int .i64 0] 116)).alloc (.cells #[.string (bs l), .int .i64 0, .int .i64 0] 55) = w2 at *
      have hXl : w.heap.size < w1.heap.size := hXl1
      generalize w1.heap.size = I at *
      refine (Read_calls I (l, 0) (by simp only; omega) _ I2.out).mono ?_
      rintro e w3 ⟨v3, rfl, h3, i3, o3, n3⟩
      have hI2 := I2.out.lt
      have hQ2 := Q2.out.lt
      have I3 := Lib.hid i3
      have Q3 := Lib.hid (Q2.out.only o3 (by omega))
      have X3 := Lib.hid (X2.out.only o3 (by omega))
      have B3 := Lib.hid (Only.to_below B2.out o3 (by omega) (by have := B2.out.size; omega))
      have N3 := Lib.hid h3
      have hw23 := o3.size
      have hn3 := Lib.hid n3
      clear i3 o3 h3 n3 I2 Q2 X2 B2
      go_wp2_with fail
      refine (RRead_calls (I + 1) l (by omega) (l, 0) _ Q3.out).mono ?_
      rintro e w4 ⟨v4, rfl, h4, q4, o4, n4⟩
      have I4 := Lib.hid (Has.only I3.out o4 (by omega))
      have Q4 := Lib.hid q4
      have X4 := Lib.hid (X3.out.only o4 (by omega))
      have B4 := Lib.hid (Only.to_below B3.out o4 (by omega) (by have := B3.out.size; omega))
      have hok := readN_ok (l, 0) 1000 (by simp only; omega)
      have N4 := Lib.hid (show NS v3 (readN (l, 0)).1.2 w4 by
        obtain ⟨A, c, rfl, hA, hn⟩ := N3.out
        refine ⟨A, c, rfl, hA, fun h0 => ?_⟩
        obtain ⟨g, off, rfl, hg, hi⟩ := hn h0
        have hgI := hn3.out g rfl
        refine ⟨g, off, rfl, Nat.lt_of_lt_of_le hg o4.size, fun j hj => ?_⟩
        obtain ⟨c0, c1, c2⟩ := hi j hj
        have hc := fun o => o4.cell (p := ⟨g, o, none⟩) hg (by dsimp only; omega)
        exact ⟨by rw [hc]; exact c0, by rw [hc]; exact c1, by rw [hc]; exact c2⟩)
      have M4 := Lib.hid h4
      generalize readN (l, 0) = rd at *
      obtain ⟨⟨tot, L⟩, st⟩ := rd
      simp only at I4 Q4 N4 M4 hok ⊢
      obtain ⟨hL1, hL2, htot, hLx, -⟩ := hok
      obtain ⟨A3, c3, rfl, -, -⟩ := N3.out
      obtain ⟨A4, c4, rfl, -, -⟩ := h4
      have hb5 := ((Below.refl w4.heap.size w4).alloc (Nat.le_refl _) (.cells #[.int .u64 (tot : Int), .slice A3 L.length c3] 74)).alloc (by simp) (.cells #[.int .u64 (tot : Int), .slice A4 L.length c4] 87)
      have H9 := Lib.hid ((Has.new w4 #[.int .u64 (tot : Int), .slice A3 L.length c3] 74).alloc (.cells #[.int .u64 (tot : Int), .slice A4 L.length c4] 87))
      have h10a := Has.new (w4.alloc (.cells #[.int .u64 (tot : Int), .slice A3 L.length c3] 74)) #[.int .u64 (tot : Int), .slice A4 L.length c4] 87
      rw [show (w4.alloc (.cells #[.int .u64 (tot : Int), .slice A3 L.length c3] 74)).heap.size = w4.heap.size + 1 by simp] at h10a
      have H10 := Lib.hid h10a
      have N5 := Lib.hid (N4.out.below hb5)
      have M5 := Lib.hid (M4.out.below hb5)
      have I5 := Lib.hid (show At I st _ from Has.below I4.out hb5)
      have Q5 := Lib.hid (Q4.out.below hb5)
      have X5 := Lib.hid (X4.out.below hb5)
      have B5 := Lib.hid (bthen B4.out hb5)
      clear hb5 h10a N4 M4 I4 Q4 X4 B4 N3 I3 Q3 X3 B3 q4 o4 n4 hn3
      go_wp2_with fail
      generalize (w4.alloc (.cells #[.int .u64 (tot : Int), .slice A3 L.length c3] 74)).alloc (.cells #[.int .u64 (tot : Int), .slice A4 L.length c4] 87) = w5 at *
      generalize w4.heap.size = p9 at *
      have HOf := Lib.hid (fun W h => Of_calls tot L (by omega) (.slice A3 L.length c3) W h)
      have HSm := Lib.hid (fun v6 W h h' => RSame_self tot v6 (.slice A4 L.length c4) L (by omega) W h h')
      have HEr := Lib.hid (fun W h => Err_calls I st W h)
      have HLe := Lib.hid (fun W h => Left_calls I st W h)
      have HRL := Lib.hid (fun W h => RLeft_below (I + 1) l st hlm W h)
      have y0 : w5.drew.cell? ⟨p9, 0, none⟩ = some (.int .u64 (tot : Int)) := H9.out.cell 0
      have y1 : w5.drew.cell? ⟨p9, 1, none⟩ = some (.slice A3 L.length c3) := H9.out.cell 1
      have z0 : w5.drew.cell? ⟨p9 + 1, 0, none⟩ = some (.int .u64 (tot : Int)) := H10.out.cell 0
      have z1 : w5.drew.cell? ⟨p9 + 1, 1, none⟩ = some (.slice A4 L.length c4) := H10.out.cell 1
      have q2 : w5.drew.cell? ⟨I + 1, 2, none⟩ = some (.int .i64 st.2) := Q5.out.code
      go_region_held3 (fun w' => (w'.cell? ⟨p9, 0, none⟩ = some (.int .u64 (tot : Int)) ∧ w'.cell? ⟨p9, 1, none⟩ = some (.slice A3 L.length c3)) ∧ (w'.cell? ⟨p9 + 1, 0, none⟩ = some (.int .u64 (tot : Int)) ∧ w'.cell? ⟨p9 + 1, 1, none⟩ = some (.slice A4 L.length c4)) ∧ w'.cell? ⟨I + 1, 2, none⟩ = some (.int .i64 st.2) ∧ Below w5.heap.size w5 w')
        ((refine ⟨two2' (t := 74) ?_, two2' (t := 87) ?_, RAt.code (S := l) ?_, ?_⟩ <;> repeat (first | (with_reducible exact H9.out) | (with_reducible exact H10.out) | (with_reducible exact Q5.out) | (with_reducible exact Below.refl _ _) | (with_reducible refine Has.drew ?_) | (with_reducible refine RAt.drew ?_) | (with_reducible refine Has.below ?_ (by with_reducible assumption)) | (with_reducible refine RAt.below ?_ (by with_reducible assumption)) | (with_reducible refine Below.drew ?_) | (with_reducible refine bthen ?_ (by with_reducible assumption)))))
        (first
          | (go_at_call 64; with_reducible refine Calls.mono (HOf.out _ ?_) ?_; exact N5.out.below (Below.refl _ _).drew; rintro e w6 ⟨v6, rfl, h6, b6, -⟩)
          | (go_at_call 63; with_reducible refine Calls.mono (HSm.out _ _ ?_ ?_) ?_; (with_reducible exact h6); exact (M5.out.below (Below.refl _ _).drew).below b6; rintro e w7 ⟨rfl, b7⟩)
          | (go_at_call 44; with_reducible refine Calls.mono (HLe.out _ ?_) ?_; (first | exact atBelow (atBelow (atDrew I5.out) b6) b7 | exact atBelow (atBelow (atBelow (atDrew I5.out) b6) b7) b9); rintro e w8 ⟨rfl, rfl⟩)
          | (go_at_call 45; with_reducible refine Calls.mono (HRL.out _ ?_) ?_; exact RAt.below (RAt.below (RAt.drew Q5.out) b6) b7; rintro e w9 ⟨rfl, b9⟩)
          | (go_at_call 46; with_reducible refine Calls.mono (HEr.out _ ?_) ?_; exact atBelow (atBelow (atDrew I5.out) b6) b7; rintro e w8 ⟨rfl, rfl⟩))
      all_goals
        have hS := ‹(_ ∧ _) ∧ (_ ∧ _) ∧ _ ∧ Below w5.heap.size w5 _›
        obtain ⟨-, -, -, hB⟩ := hS
        have B6 := Lib.hid (bthen B5.out hB)
        have N6 := Lib.hid (N5.out.below hB)
        have M6 := Lib.hid (M5.out.below hB)
        have X6 := Lib.hid (X5.out.below hB)
        have G9 := Lib.hid (H9.out.below hB)
        have G10 := Lib.hid (H10.out.below hB)
        have hadd := addN_ok tot L x hL1 hL2 htot
        have HAd := Lib.hid (fun W h => Add_calls tot htot L hL1 (.slice A3 L.length c3) x hx2 W h)
        have HRd := Lib.hid (fun W h => RAdd_calls tot htot L hL1 (.slice A4 L.length c4) x hx2 W h)
        clear hB y0 y1 z0 z1 q2 B5 N5 M5 X5 H9 H10 I5 Q5 HOf HSm HEr HLe HRL b6 b7 h6
        generalize addN tot L x = ad at *
        obtain ⟨t2, L2, e2⟩ := ad
        simp only [NV] at HAd HRd hadd
        obtain ⟨hM1, hM2, hM3⟩ := hadd
        have y0 := G9.out.cell 0
        have y1 := G9.out.cell 1
        have x0 := X6.out.cell 0
        have x1 := X6.out.cell 1
        have x2 := X6.out.cell 2
        go_wp2_with fail
        refine (HAd.out _ N6.out).mono ?_
        rintro e wA ⟨vA, rfl, hA, bA, -⟩
        have VA := Lib.hid hA
        obtain ⟨A7, c7, rfl, -, -⟩ := hA
        have bA' := bthen bA ((Below.refl wA.heap.size wA).alloc (Nat.le_refl _) (.cells #[.int .u64 (t2 : Int), .slice A7 L2.length c7] 74))
        have V7 := Lib.hid (VA.out.below ((Below.refl wA.heap.size wA).alloc (Nat.le_refl _) (.cells #[.int .u64 (t2 : Int), .slice A7 L2.length c7] 74)))
        have H11 := Lib.hid (Has.new wA #[.int .u64 (t2 : Int), .slice A7 L2.length c7] 74)
        have B7 := Lib.hid (bthen B6.out bA')
        have M7 := Lib.hid (M6.out.below bA')
        have X7 := Lib.hid (X6.out.below bA')
        have K10 := Lib.hid (G10.out.below bA')
        clear bA bA' VA B6 N6 M6 X6 G9 G10 y0 y1 x0 x1 x2 HAd
        have z0 := K10.out.cell 0
        have z1 := K10.out.cell 1
        have x0 := X7.out.cell 0
        have x1 := X7.out.cell 1
        have x2 := X7.out.cell 2
        have lz := K10.out.lt
        have lx := X7.out.lt
        have lA := H11.out.lt
        go_wp2_with fail
        generalize wA.alloc (.cells #[.int .u64 (t2 : Int), .slice A7 L2.length c7] 74) = w7 at *
        generalize wA.heap.size = p11 at *
        refine (HRd.out _ M7.out).mono ?_
        rintro e wA ⟨vA, rfl, hA, bA, -⟩
        have VA := Lib.hid hA
        obtain ⟨A8, c8, rfl, -, -⟩ := hA
        have bA' := bthen bA ((Below.refl wA.heap.size wA).alloc (Nat.le_refl _) (.cells #[.int .u64 (t2 : Int), .slice A8 L2.length c8] 87))
        have M8 := Lib.hid (VA.out.below ((Below.refl wA.heap.size wA).alloc (Nat.le_refl _) (.cells #[.int .u64 (t2 : Int), .slice A8 L2.length c8] 87)))
        have H13 := Lib.hid (Has.new wA #[.int .u64 (t2 : Int), .slice A8 L2.length c8] 87)
        have B8 := Lib.hid (bthen B7.out bA')
        have V8 := Lib.hid (V7.out.below bA')
        have K11 := Lib.hid (H11.out.below bA')
        clear bA bA' VA B7 M7 V7 X7 K10 H11 z0 z1 x0 x1 x2 HRd lz lx lA
        have y0 := K11.out.cell 0
        have y1 := K11.out.cell 1
        have lA := K11.out.lt
        have lB := H13.out.lt
        have HG := Lib.hid (fun W h => Get_calls t2 hM3 L2 (by omega) hM2 (.slice A7 L2.length c7) number hnum W h)
        have HRG := Lib.hid (fun W h => RGet_calls t2 hM3 L2 (by omega) hM2 (.slice A8 L2.length c8) number W h)
        generalize getN t2 L2 number = gn at *
        obtain ⟨g, ok⟩ := gn
        simp only [NV] at HG HRG
        go_wp2_with fail
        generalize wA.alloc (.cells #[.int .u64 (t2 : Int), .slice A8 L2.length c8] 87) = w8 at *
        generalize wA.heap.size = p13 at *
        refine (HG.out _ V8.out).mono ?_
        rintro e wA ⟨rfl, bA⟩
        have bA' := bthen bA ((Below.refl wA.heap.size wA).alloc (Nat.le_refl _) (.cells #[.int .u64 g.tick, .int .u8 g.kind.toNat, .string g.text] 76))
        have H15 := Lib.hid (Has.new wA #[.int .u64 g.tick, .int .u8 g.kind.toNat, .string g.text] 76)
        have B9 := Lib.hid (bthen B8.out bA')
        have V9 := Lib.hid (V8.out.below bA')
        have M9 := Lib.hid (M8.out.below bA')
        have J11 := Lib.hid (K11.out.below bA')
        have J13 := Lib.hid (H13.out.below bA')
        clear bA bA' B8 V8 M8 K11 H13 y0 y1 HG lA lB
        have y0 := J13.out.cell 0
        have y1 := J13.out.cell 1
        have lB := J13.out.lt
        have lC := H15.out.lt
        go_wp2_with fail
        generalize wA.alloc (.cells #[.int .u64 g.tick, .int .u8 g.kind.toNat, .string g.text] 76) = w9 at *
        generalize wA.heap.size = p15 at *
        refine (HRG.out _ M9.out).mono ?_
        rintro e wA ⟨rfl, bA⟩
        have bA' := bthen bA ((Below.refl wA.heap.size wA).alloc (Nat.le_refl _) (.cells #[.int .u64 g.tick, .int .u8 g.kind.toNat, .string g.text] 93))
        have H17 := Lib.hid (Has.new wA #[.int .u64 g.tick, .int .u8 g.kind.toNat, .string g.text] 93)
        have B10 := Lib.hid (bthen B9.out bA')
        have V10 := Lib.hid (V9.out.below bA')
        have M10 := Lib.hid (M9.out.below bA')
        have L11 := Lib.hid (J11.out.below bA')
        have L13 := Lib.hid (J13.out.below bA')
        have L15 := Lib.hid (H15.out.below bA')
        clear bA bA' B9 V9 M9 J11 J13 H15 y0 y1 HRG lB lC
        go_wp2_with fail
        generalize wA.alloc (.cells #[.int .u64 g.tick, .int .u8 g.kind.toNat, .string g.text] 93) = w10 at *
        generalize wA.heap.size = p17 at *
        have HOf := Lib.hid (fun W h => Of_calls t2 L2 (by omega) (.slice A7 L2.length c7) W h)
        have HSm := Lib.hid (fun v6 W h h' => RSame_self t2 v6 (.slice A8 L2.length c8) L2 (by omega) W h h')
        have f0 : w10.drew.cell? ⟨p11, 0, none⟩ = some (.int .u64 (t2 : Int)) := L11.out.cell 0
        have f1 : w10.drew.cell? ⟨p11, 1, none⟩ = some (.slice A7 L2.length c7) := L11.out.cell 1
        have f2 : w10.drew.cell? ⟨p13, 0, none⟩ = some (.int .u64 (t2 : Int)) := L13.out.cell 0
        have f3 : w10.drew.cell? ⟨p13, 1, none⟩ = some (.slice A8 L2.length c8) := L13.out.cell 1
        have f4 : w10.drew.cell? ⟨p15, 0, none⟩ = some (.int .u64 g.tick) := L15.out.cell 0
        have f5 : w10.drew.cell? ⟨p15, 1, none⟩ = some (.int .u8 g.kind.toNat) := L15.out.cell 1
        have f6 : w10.drew.cell? ⟨p15, 2, none⟩ = some (.string g.text) := L15.out.cell 2
        have f7 : w10.drew.cell? ⟨p17, 0, none⟩ = some (.int .u64 g.tick) := H17.out.cell 0
        have f8 : w10.drew.cell? ⟨p17, 1, none⟩ = some (.int .u8 g.kind.toNat) := H17.out.cell 1
        have f9 : w10.drew.cell? ⟨p17, 2, none⟩ = some (.string g.text) := H17.out.cell 2
        go_region_held3 (fun w' => (w'.cell? ⟨p11, 0, none⟩ = some (.int .u64 (t2 : Int)) ∧ w'.cell? ⟨p11, 1, none⟩ = some (.slice A7 L2.length c7)) ∧ (w'.cell? ⟨p13, 0, none⟩ = some (.int .u64 (t2 : Int)) ∧ w'.cell? ⟨p13, 1, none⟩ = some (.slice A8 L2.length c8)) ∧ (w'.cell? ⟨p15, 0, none⟩ = some (.int .u64 g.tick) ∧ w'.cell? ⟨p15, 1, none⟩ = some (.int .u8 g.kind.toNat) ∧ w'.cell? ⟨p15, 2, none⟩ = some (.string g.text)) ∧ (w'.cell? ⟨p17, 0, none⟩ = some (.int .u64 g.tick) ∧ w'.cell? ⟨p17, 1, none⟩ = some (.int .u8 g.kind.toNat) ∧ w'.cell? ⟨p17, 2, none⟩ = some (.string g.text)) ∧ Below w10.heap.size w10 w')
          ((refine ⟨two2' (t := 74) ?_, two2' (t := 87) ?_, four2 (t := 76) ?_, four2 (t := 93) ?_, ?_⟩ <;> repeat (first | (with_reducible exact L11.out) | (with_reducible exact L13.out) | (with_reducible exact L15.out) | (with_reducible exact H17.out) | (with_reducible exact Below.refl _ _) | (with_reducible refine Has.drew ?_) | (with_reducible refine Has.below ?_ (by with_reducible assumption)) | (with_reducible refine Below.drew ?_) | (with_reducible refine bthen ?_ (by with_reducible assumption)))))
          (first
            | (go_at_call 64; with_reducible refine Calls.mono (HOf.out _ ?_) ?_; exact V10.out.below (Below.refl _ _).drew; rintro e w6 ⟨v6, rfl, h6, b6, -⟩)
            | (go_at_call 63; with_reducible refine Calls.mono (HSm.out _ _ ?_ ?_) ?_; (with_reducible exact h6); exact (M10.out.below (Below.refl _ _).drew).below b6; rintro e w7 ⟨rfl, b7⟩))
        all_goals
          have hS := ‹(_ ∧ _) ∧ (_ ∧ _) ∧ (_ ∧ _ ∧ _) ∧ _ ∧ Below w10.heap.size w10 _›
          obtain ⟨-, -, -, -, hB⟩ := hS
          have B11 := Lib.hid (bthen B10.out hB)
          clear hB f0 f1 f2 f3 f4 f5 f6 f7 f8 f9
          go_wp2_with fail
          go_ret
          exact ⟨by simp, B11.out⟩
end Go.Proofs.Ytopacbmdoognjaa.Not
