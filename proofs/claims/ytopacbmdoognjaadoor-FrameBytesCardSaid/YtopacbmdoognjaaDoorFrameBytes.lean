/- The walk of frame.Bytes. -/
import Derived.Test.YtopacbmdoognjaaDoorFrameRef
import Derived.Test.YtopacbmdoognjaaDoorOctText
namespace Go.Proofs.YtopacbmdoognjaaDoor.Frm
open Go Go.RowKit Frame Oct
theorem num_one (s : List UInt8) (hs : s.length ≤ 100000) (x : UInt8) (w : World) :
    Calls Tryd.prog 80 #[.agg #[.string (bs s), .int .i64 0], .int .u64 (x.toNat : Int), .int .i64 1] w fun e' w' => e' = .returned (.agg #[.string (bs (s ++ [x])), .int .i64 0]) ∧ Below w.heap.size w w' := by
  have h := OutNum_calls (bs s) 0 x.toNat 1 (by decide) (by rw [bs_size]; omega) w
  rw [bs_toList, show be (wid 1) x.toNat = [UInt8.ofNat x.toNat] from rfl, UInt8.ofNat_toNat] at h
  exact h
theorem num_four (s : List UInt8) (hs : s.length ≤ 100000) (n : Nat) (w : World) :
    Calls Tryd.prog 80 #[.agg #[.string (bs s), .int .i64 0], .int .u64 (n : Int), .int .i64 4] w fun e' w' => e' = .returned (.agg #[.string (bs (s ++ be 4 n)), .int .i64 0]) ∧ Below w.heap.size w w' := by
  have h := OutNum_calls (bs s) 0 n 4 (by decide) (by rw [bs_size]; omega) w
  rw [bs_toList, show be (wid 4) n = be 4 n from rfl] at h
  exact h
theorem text_any (s t : List UInt8) (hs : s.length ≤ 100000) (ht : t.length ≤ 65535) (w : World) :
    Calls Tryd.prog 81 #[.agg #[.string (bs s), .int .i64 0], .string (bs t)] w fun e' w' => e' = .returned (.agg #[.string (bs (s ++ txt t)), .int .i64 0]) ∧ Below w.heap.size w w' := by
  have h := OutText_calls (bs s) (bs t) 0 (by rw [bs_size]; omega) (by rw [bs_size]; omega) w
  rw [bs_toList, bs_toList] at h
  exact h
theorem three {b : Nat} {a0 a1 a2 : Value} {t : TypeId} {w : World} (h : Has b #[a0, a1, a2] t w) : w.cell? ⟨b, 0, none⟩ = some a0 ∧ w.cell? ⟨b, 1, none⟩ = some a1 ∧ w.cell? ⟨b, 2, none⟩ = some a2 := ⟨h.cell 0, h.cell 1, h.cell 2⟩
theorem two {b : Nat} {a0 a1 : Value} {t : TypeId} {w : World} (h : Has b #[a0, a1] t w) : w.cell? ⟨b, 0, none⟩ = some a0 ∧ w.cell? ⟨b, 1, none⟩ = some a1 := ⟨h.cell 0, h.cell 1⟩
theorem setTwo {p : Nat} {x y : Value} {t : TypeId} {w : World} (h : Has p #[x, y] t w) (a b : Value) : Has p #[a, b] t ((w.setCell ⟨p, 0, none⟩ a).setCell ⟨p, 1, none⟩ b) := by
  have := (h.set (i := 0) a).set (i := 1) b
  simpa using this
theorem drew_alloc_lt (w : World) (o : Obj) : w.heap.size < ((w.alloc o).drew).heap.size := by show w.heap.size < (w.alloc o).heap.size; simp
theorem Bytes_long (f : Fm) (hb : 2048 < f.body.length) (w : World) :
    Calls Tryd.prog 30 #[FV f] w fun e w' => e = .returned (.tuple #[.string ⟨#[]⟩, .int .i64 5]) ∧ Below w.heap.size w w' := by
  have hz : (bs f.body).size = f.body.length := bs_size _
  unfold FV
  go_enter Tryd.func30, Tryd.ntmps30
  go_wp2_with fail
  go_ret2
  exact ⟨rfl, (Below.refl _ _).alloc (Nat.le_refl _) _⟩
set_option maxRecDepth 100000 in
set_option maxHeartbeats 4000000 in
theorem Bytes_calls (f : Fm) (hb : f.body.length ≤ 2048) (w : World) (hT : Crc.Tab w) :
    Calls Tryd.prog 30 #[FV f] w fun e w' => e = .returned (.tuple #[.string (bs (bytes f)), .int .i64 0]) ∧ Below w.heap.size w w' := by
  have hz : (bs f.body).size = f.body.length := bs_size _
  obtain ⟨ch, kd, body⟩ := f
  simp only at hb hz
  have HN1 := Lib.hid (fun W => num_one [] (by simp) ch W)
  have HN2 := Lib.hid (fun W => num_one [ch] (by simp) kd W)
  have HTX := Lib.hid (fun W => text_any [ch, kd] body (by simp) (by omega) W)
  have hf : [ch, kd] ++ txt body = front ⟨ch, kd, body⟩ := rfl
  rw [hf] at HTX
  have hfl : (front ⟨ch, kd, body⟩).length ≤ 3000 := by simp [front, txt, be_length]; omega
  have hB0 : Below w.heap.size w (w.alloc (.cells #[.int .u8 ch.toNat, .int .u8 kd.toNat, .string (bs body)] 35)) := (Below.refl _ _).alloc (Nat.le_refl _) _
  have HH0 := Lib.hid (Has.new w #[.int .u8 ch.toNat, .int .u8 kd.toNat, .string (bs body)] 35)
  have HT0 := Lib.hid (hT.below hB0)
  have HB0 := Lib.hid hB0
  have HBY := Lib.hid (show bytes ⟨ch, kd, body⟩ = front ⟨ch, kd, body⟩ ++ (be 4 (Crc.sum (front ⟨ch, kd, body⟩)) ++ [206]) from rfl)
  clear hT hB0 hf
  unfold FV
  simp only
  generalize front ⟨ch, kd, body⟩ = fr at *
  go_enter Tryd.func30, Tryd.ntmps30
  go_wp2_with fail
  generalize w.alloc (.cells #[.int .u8 ch.toNat, .int .u8 kd.toNat, .string (bs body)] 35) = w0 at *
  have HD := Lib.hid (HH0.out.drew)
  have y0 : w0.drew.cell? ⟨w.heap.size, 0, none⟩ = some (.int .u8 ch.toNat) := HD.out.cell 0
  have y1 : w0.drew.cell? ⟨w.heap.size, 1, none⟩ = some (.int .u8 kd.toNat) := HD.out.cell 1
  have y2 : w0.drew.cell? ⟨w.heap.size, 2, none⟩ = some (.string (bs body)) := HD.out.cell 2
  have hwl := HH0.out.lt
  have u1 := ch.toNat_lt
  have u2 := kd.toNat_lt
  have g1 : IntKind.u64.wrap (ch.toNat : Int) = (ch.toNat : Int) := IntWalk.u64_in _ (by omega)
  have g2 : IntKind.u64.wrap (kd.toNat : Int) = (kd.toNat : Int) := IntWalk.u64_in _ (by omega)
  have tok1 : True := trivial
  go_region_held3 (fun w' => w'.cell? ⟨w.heap.size, 0, none⟩ = some (.int .u8 ch.toNat) ∧ w'.cell? ⟨w.heap.size, 1, none⟩ = some (.int .u8 kd.toNat) ∧ w'.cell? ⟨w.heap.size, 2, none⟩ = some (.string (bs body)))
    ((refine three (t := 35) ?_; repeat (first | (with_reducible exact HH0.out) | (with_reducible refine Has.drew ?_) | (with_reducible refine Has.alloc ?_ _) | (with_reducible refine Has.below ?_ (by with_reducible assumption)) | (with_reducible refine Has.set_other ?_ (by dsimp only; omega) _))))
    (first
      | (go_at_call 81; refine (HTX.out _).mono ?_; rintro e w3 ⟨rfl, b3⟩; have s3 : w2.heap.size ≤ w3.heap.size := Nat.le_trans (by simp) b3.size;
           (try have hA3 : Has w0.heap.size #[.string ⟨#[]⟩, .int .i64 0] 114 w3 := by with_reducible exact hA2.below b3);
           (try have hB3 : Has w1.heap.size #[.string ⟨#[]⟩, .int .i64 0] 114 w3 := by with_reducible exact hB2.below b3);
           (try have hC3 : Has w2.heap.size #[.string ⟨#[]⟩, .int .i64 0] 114 w3 := by with_reducible exact (Has.new w2 #[.string ⟨#[]⟩, .int .i64 0] 114).below b3);
           (try (have c0 := hA3.cell 0; have c1 := hA3.cell 1; have cf := hA3.frozen));
           (try (have c0 := hB3.cell 0; have c1 := hB3.cell 1; have cf := hB3.frozen));
           (try (have c0 := hC3.cell 0; have c1 := hC3.cell 1; have cf := hC3.frozen)))
      | (go_at_call 80; have _t := tok1; refine (HN1.out _).mono ?_; rintro e w1 ⟨rfl, b1⟩; clear _t tok1; have s1 : w0.heap.size ≤ w1.heap.size := Nat.le_trans (by first | exact Nat.le_refl _ | exact Nat.le_of_lt (drew_alloc_lt _ _)) b1.size;
           (try have hA1 : Has w0.heap.size #[.string ⟨#[]⟩, .int .i64 0] 114 w1 := by with_reducible exact ((Has.new w0 #[.string ⟨#[]⟩, .int .i64 0] 114).drew).below b1))
      | (go_at_call 80; refine (HN2.out _).mono ?_; rintro e w2 ⟨rfl, b2⟩; have s2 : w1.heap.size ≤ w2.heap.size := Nat.le_trans (by simp) b2.size;
           (try have hA2 : Has w0.heap.size #[.string ⟨#[]⟩, .int .i64 0] 114 w2 := by with_reducible exact hA1.below b2);
           (try have hB2 : Has w1.heap.size #[.string ⟨#[]⟩, .int .i64 0] 114 w2 := by with_reducible exact (Has.new w1 #[.string ⟨#[]⟩, .int .i64 0] 114).below b2)))
  all_goals
    have q1 : Below w0.heap.size w0 w1 := by first | (with_reducible exact after_drew b1) | (with_reducible exact after_alloc (after_drew b1))
    have q2 : Below w1.heap.size w1 w2 := by first | (with_reducible exact b2) | (with_reducible exact after_alloc b2)
    have q3 : Below w2.heap.size w2 w3 := by first | (with_reducible exact b3) | (with_reducible exact after_alloc b3)
    have Q3 := Lib.hid (bthen (bthen q1 q2) q3)
    clear q1 q2 q3 b1 b2 b3
    first
      | (have HO4 := Lib.hid (setTwo hA3 (.string (bs fr)) (.int .i64 0)); have H4 := (Q3.out.setCell (p := ⟨w0.heap.size, 0, none⟩) (by dsimp only; omega) (.string (bs fr))).setCell (p := ⟨w0.heap.size, 1, none⟩) (by dsimp only; omega) (.int .i64 0); have HB4 := Lib.hid (bthen HB0.out H4); have HT4 := Lib.hid (HT0.out.below H4); clear H4 hA3 c0 c1 cf; generalize (w3.setCell ⟨w0.heap.size, 0, none⟩ (.string (bs fr))).setCell ⟨w0.heap.size, 1, none⟩ (.int .i64 0) = w4 at *; generalize w0.heap.size = p at *)
      | (have HO4 := Lib.hid (setTwo hB3 (.string (bs fr)) (.int .i64 0)); have H4 := (Q3.out.setCell (p := ⟨w1.heap.size, 0, none⟩) (by dsimp only; omega) (.string (bs fr))).setCell (p := ⟨w1.heap.size, 1, none⟩) (by dsimp only; omega) (.int .i64 0); have HB4 := Lib.hid (bthen HB0.out H4); have HT4 := Lib.hid (HT0.out.below H4); clear H4 hB3 c0 c1 cf; generalize (w3.setCell ⟨w1.heap.size, 0, none⟩ (.string (bs fr))).setCell ⟨w1.heap.size, 1, none⟩ (.int .i64 0) = w4 at *; generalize w1.heap.size = p at *)
      | (have HO4 := Lib.hid (setTwo hC3 (.string (bs fr)) (.int .i64 0)); have H4 := (Q3.out.setCell (p := ⟨w2.heap.size, 0, none⟩) (by dsimp only; omega) (.string (bs fr))).setCell (p := ⟨w2.heap.size, 1, none⟩) (by dsimp only; omega) (.int .i64 0); have HB4 := Lib.hid (bthen HB0.out H4); have HT4 := Lib.hid (HT0.out.below H4); clear H4 hC3 c0 c1 cf; generalize (w3.setCell ⟨w2.heap.size, 0, none⟩ (.string (bs fr))).setCell ⟨w2.heap.size, 1, none⟩ (.int .i64 0) = w4 at *; generalize w2.heap.size = p at *)
      | (have HO4 := Lib.hid (Has.new w3 #[.string (bs fr), .int .i64 0] 114); have H4 := Q3.out.alloc Q3.out.size (.cells #[.string (bs fr), .int .i64 0] 114); have HB4 := Lib.hid (bthen HB0.out H4); have HT4 := Lib.hid (HT0.out.below H4); clear H4; generalize w3.alloc (.cells #[.string (bs fr), .int .i64 0] 114) = w4 at *; generalize w3.heap.size = p at *)
    go_wp2_with fail
    have HO5 := Lib.hid HO4.out.drew
    have y0 : w4.drew.cell? ⟨p, 0, none⟩ = some (.string (bs fr)) := HO5.out.cell 0
    have y1 : w4.drew.cell? ⟨p, 1, none⟩ = some (.int .i64 0) := HO5.out.cell 1
    have hsl := Crc.sum_lt fr
    have g3 : IntKind.u64.wrap ((Crc.sum fr : Nat) : Int) = ((Crc.sum fr : Nat) : Int) := IntWalk.u64_in _ (by omega)
    have HM4 := Lib.hid (fun W => num_four fr (by omega) (Crc.sum fr) W)
    have HM1 := Lib.hid (fun W => num_one (fr ++ be 4 (Crc.sum fr)) (by simp [be_length]; omega) 206 W)
    have HST := Lib.hid (fun W => OutString_calls (bs fr) 0 W)
    have HSE := Lib.hid (fun W => OutString_calls (bs (fr ++ (be 4 (Crc.sum fr) ++ [206]))) 0 W)
    have tok2 : True := trivial
    have tok3 : True := trivial
    go_region_held3 (fun w' => w'.cell? ⟨p, 0, none⟩ = some (.string (bs fr)) ∧ w'.cell? ⟨p, 1, none⟩ = some (.int .i64 0))
      (first
        | with_reducible exact two HO5.out
        | with_reducible exact two (HO5.out.below b5)
        | with_reducible exact two ((HO5.out.below b5).alloc (.cells #[.string (bs fr)] 9))
        | with_reducible exact two (((HO5.out.below b5).alloc (.cells #[.string (bs fr)] 9)).below b7)
        | with_reducible exact two ((((HO5.out.below b5).alloc (.cells #[.string (bs fr)] 9)).below b7).below b8)
        | with_reducible exact two (((((HO5.out.below b5).alloc (.cells #[.string (bs fr)] 9)).below b7).below b8).below b9))
      (first
        | (go_at_call 23; refine (Sum_one w5.heap.size fr (by unfold maxLen; omega) _ ((HT4.out.below (after_drew b5)).below ((Below.refl _ _).alloc (Nat.le_refl _) _)) ((Has.new w5 _ _).cell 0)).mono ?_; rintro e w6 ⟨rfl, rfl⟩)
        | (go_at_call 82; have _t := tok2; refine (HST.out _).mono ?_; rintro e w5 ⟨rfl, b5⟩; clear _t tok2)
        | (go_at_call 80; have _t := tok3; refine (HM4.out _).mono ?_; rintro e w7 ⟨rfl, b7⟩; clear _t tok3)
        | (go_at_call 80; refine (HM1.out _).mono ?_; rintro e w8 ⟨rfl, b8⟩)
        | (go_at_call 82; refine (HSE.out _).mono ?_; rintro e w9 ⟨rfl, b9⟩))
    have Q9 := Lib.hid (bthen (bthen (bthen (bthen HB4.out (after_drew b5)) (after_alloc b7)) b8) b9)
    clear b5 b7 b8 b9
    go_wp2_with fail
    go_ret2
    exact ⟨by rw [HBY.out]; rfl, Q9.out⟩
end Go.Proofs.YtopacbmdoognjaaDoor.Frm
