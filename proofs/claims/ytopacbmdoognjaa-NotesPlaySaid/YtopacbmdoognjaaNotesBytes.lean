/- The walk of (notes.Notes).Bytes. -/
import Derived.Test.YtopacbmdoognjaaNotesRefBytes
import Derived.Test.YtopacbmdoognjaaOctText
import Derived.Deep.RegionLaw
namespace Go.Proofs.Ytopacbmdoognjaa.Not
open Go Go.RowKit Frame Oct
theorem out_first (n : Nat) (w : World) : Calls Try.prog 21 #[.agg #[.string ⟨#[]⟩, .int .i64 0], .int .u64 (n : Int), .int .i64 8] w fun e' w' => e' = .returned (.agg #[.string (bs (be 8 n)), .int .i64 0]) ∧ Below w.heap.size w w' := by
  have h := OutNum_calls ⟨#[]⟩ 0 n 8 (by decide) (by decide) w
  exact h
theorem out_num (s : List UInt8) (hs : s.length ≤ 100000) (n : Nat) (w : World) : Calls Try.prog 21 #[.agg #[.string (bs s), .int .i64 0], .int .u64 (n : Int), .int .i64 8] w fun e' w' => e' = .returned (.agg #[.string (bs (s ++ be 8 n)), .int .i64 0]) ∧ Below w.heap.size w w' := by
  have h := OutNum_calls (bs s) 0 n 8 (by decide) (by rw [bs_size]; omega) w
  rw [bs_toList, show be (wid 8) n = be 8 n from rfl] at h
  exact h
theorem out_one (s : List UInt8) (hs : s.length ≤ 100000) (n : Nat) (w : World) : Calls Try.prog 21 #[.agg #[.string (bs s), .int .i64 0], .int .u64 (n : Int), .int .i64 1] w fun e' w' => e' = .returned (.agg #[.string (bs (s ++ be 1 n)), .int .i64 0]) ∧ Below w.heap.size w w' := by
  have h := OutNum_calls (bs s) 0 n 1 (by decide) (by rw [bs_size]; omega) w
  rw [bs_toList, show be (wid 1) n = be 1 n from rfl] at h
  exact h
theorem out_text (s : List UInt8) (t : ByteArray) (hs : s.length ≤ 100000) (ht : t.size ≤ 65535) (w : World) : Calls Try.prog 71 #[.agg #[.string (bs s), .int .i64 0], .string t] w fun e' w' => e' = .returned (.agg #[.string (bs (s ++ txt t.data.toList)), .int .i64 0]) ∧ Below w.heap.size w w' := by
  have h := OutText_calls (bs s) t 0 (by rw [bs_size]; omega) ht w
  rw [bs_toList] at h
  exact h
theorem out_alloc_lt (w : World) (o : Obj) : w.heap.size < ((w.alloc o).drew).heap.size := by show w.heap.size < (w.alloc o).heap.size; simp
set_option maxRecDepth 100000 in
set_option maxHeartbeats 4000000 in
theorem Bytes_calls (tot : Nat) (l : List Nt) (hl : l.length ≤ 100) (hx : ∀ x ∈ l, x.text.size ≤ 100 ∧ x.tick < 18446744073709551616) (v : Value) (w : World) (h : NS v l w) :
    Calls Try.prog 68 #[.agg #[.int .u64 (tot : Int), v]] w fun e w' => e = .returned (.string (bs (pre tot l.length l))) ∧ Below w.heap.size w w' := by
  obtain ⟨A, c, rfl, hA, hN⟩ := h
  have hb0 := (Below.refl w.heap.size w).alloc (by simp) (.cells #[.int .u64 (tot : Int), .slice A l.length c] 74)
  have H0 := Lib.hid (Has.new w #[.int .u64 (tot : Int), .slice A l.length c] 74)
  have B0 := Lib.hid hb0
  have N0 := Lib.hid (hN.below hb0)
  have HX := Lib.hid hx
  have NW := Lib.hid hN
  have HN1 := Lib.hid (fun W => out_first tot W)
  have HN2 := Lib.hid (fun W => out_one (be 8 tot) (by rw [be_length]; omega) l.length W)
  have HP0 := Lib.hid (show be 8 tot ++ be 1 l.length = pre tot l.length [] by simp [pre])
  rw [HP0.out] at HN2
  have g1 : IntKind.u64.wrap (l.length : Int) = (l.length : Int) := IntWalk.u64_in _ (by omega)
  clear hb0 hN hx
  go_enter Try.func68, Try.ntmps68
  go_wp2_with fail
  generalize w.alloc (.cells #[.int .u64 (tot : Int), .slice A l.length c] 74) = w0 at *
  have y0 : w0.drew.cell? ⟨w.heap.size, 0, none⟩ = some (.int .u64 (tot : Int)) := H0.out.cell 0
  have y1 : w0.drew.cell? ⟨w.heap.size, 1, none⟩ = some (.slice A l.length c) := H0.out.cell 1
  have hwl := H0.out.lt
  go_region_held3 (fun w' => w'.cell? ⟨w.heap.size, 0, none⟩ = some (.int .u64 (tot : Int)) ∧ w'.cell? ⟨w.heap.size, 1, none⟩ = some (.slice A l.length c))
    ((refine two2' (t := 74) ?_; repeat (first | (with_reducible exact H0.out) | (with_reducible refine Has.drew ?_) | (with_reducible refine Has.alloc ?_ _) | (with_reducible refine Has.below ?_ (by with_reducible assumption)) | (with_reducible refine Has.set_other ?_ (by dsimp only; omega) _))))
    (first
      | (go_at_call 21; (with_reducible refine Calls.mono (HN1.out _) ?_); rintro e w1 ⟨rfl, b1⟩; have s1 : w0.heap.size ≤ w1.heap.size := Nat.le_trans (by first | exact Nat.le_refl _ | exact Nat.le_of_lt (out_alloc_lt _ _)) b1.size;
           (try have hA1 : Has w0.heap.size #[.string ⟨#[]⟩, .int .i64 0] 32 w1 := by with_reducible exact ((Has.new w0 #[.string ⟨#[]⟩, .int .i64 0] 32).drew).below b1))
      | (go_at_call 21; (with_reducible refine Calls.mono (HN2.out _) ?_); rintro e w2 ⟨rfl, b2⟩; have s2 : w1.heap.size ≤ w2.heap.size := Nat.le_trans (by simp) b2.size;
           (try have hA2 : Has w0.heap.size #[.string ⟨#[]⟩, .int .i64 0] 32 w2 := by with_reducible exact hA1.below b2);
           (try have hB2 : Has w1.heap.size #[.string ⟨#[]⟩, .int .i64 0] 32 w2 := by with_reducible exact (Has.new w1 #[.string ⟨#[]⟩, .int .i64 0] 32).below b2);
           (try (have c0 := hA2.cell 0; have c1 := hA2.cell 1; have cf := hA2.frozen));
           (try (have c0 := hB2.cell 0; have c1 := hB2.cell 1; have cf := hB2.frozen))))
  all_goals
    have q1 : Below w0.heap.size w0 w1 := by first | (with_reducible exact after_drew b1) | (with_reducible exact after_alloc (after_drew b1))
    have q2 : Below w1.heap.size w1 w2 := by first | (with_reducible exact b2) | (with_reducible exact after_alloc b2)
    have Q2 := Lib.hid (bthen q1 q2)
    clear q1 q2 b1 b2
    first
      | (have HO4 := Lib.hid (setTwo hA2 (.string (bs (pre tot l.length []))) (.int .i64 0)); have H4 := (Q2.out.setCell (p := ⟨w0.heap.size, 0, none⟩) (by dsimp only; omega) (.string (bs (pre tot l.length [])))).setCell (p := ⟨w0.heap.size, 1, none⟩) (by dsimp only; omega) (.int .i64 0); have HB4 := Lib.hid (bthen B0.out H4); have HN4 := Lib.hid (N0.out.below H4); clear H4 hA2 c0 c1 cf; generalize (w2.setCell ⟨w0.heap.size, 0, none⟩ (.string (bs (pre tot l.length [])))).setCell ⟨w0.heap.size, 1, none⟩ (.int .i64 0) = w4 at *; generalize hpp : w0.heap.size = p at *)
      | (have HO4 := Lib.hid (setTwo hB2 (.string (bs (pre tot l.length []))) (.int .i64 0)); have H4 := (Q2.out.setCell (p := ⟨w1.heap.size, 0, none⟩) (by dsimp only; omega) (.string (bs (pre tot l.length [])))).setCell (p := ⟨w1.heap.size, 1, none⟩) (by dsimp only; omega) (.int .i64 0); have HB4 := Lib.hid (bthen B0.out H4); have HN4 := Lib.hid (N0.out.below H4); clear H4 hB2 c0 c1 cf; generalize (w2.setCell ⟨w1.heap.size, 0, none⟩ (.string (bs (pre tot l.length [])))).setCell ⟨w1.heap.size, 1, none⟩ (.int .i64 0) = w4 at *; generalize hpp : w1.heap.size = p at *)
      | (have HO4 := Lib.hid (Has.new w2 #[.string (bs (pre tot l.length [])), .int .i64 0] 32); have H4 := Q2.out.alloc Q2.out.size (.cells #[.string (bs (pre tot l.length [])), .int .i64 0] 32); have HB4 := Lib.hid (bthen B0.out H4); have HN4 := Lib.hid (N0.out.below H4); clear H4; generalize w2.alloc (.cells #[.string (bs (pre tot l.length [])), .int .i64 0] 32) = w4 at *; generalize hpp : w2.heap.size = p at *)
    have hp0 : w.heap.size < p := by omega
    clear hpp s1 s2
    clear y0 y1 HN1 HN2 HP0 HN4 H0 B0 N0 Q2
    go_wp2_with fail
    go_loopw [18] (fun i wr => ∃ k : Nat, k ≤ l.length ∧ i = .int .i64 k ∧ Hid (Below w.heap.size w wr) ∧ Hid (Has p #[.string (bs (pre tot l.length (l.take k))), .int .i64 0] 32 wr)) (fun i _ => l.length - (intOf i).toNat)
    case atStart => exact ⟨0, by omega, rfl, HB4, HO4⟩
    case round =>
      obtain ⟨k, hk, rfl, hW, hO⟩ := hrel
      clear HB4 HO4
      by_cases hlt : k < l.length
      · obtain ⟨b, off, rfl, hb, hi⟩ := (NW.out.below hW.out) (by omega)
        obtain ⟨c0, c1, c2⟩ := hi k hlt
        clear hi
        have HP := Lib.hid (pre_snoc tot l.length (l.take k) (l.getD k default))
        rw [← take_succ_getD l k hlt] at HP
        have hxx := HX.out _ (getD_mem l k hlt)
        have hPl := pre_length tot l.length (l.take k) (fun y hy => (HX.out y (List.mem_of_mem_take hy)).1)
        rw [List.length_take, Nat.min_eq_left hk] at hPl
        generalize l.getD k default = x at *
        generalize pre tot l.length (l.take k) = P at *
        obtain ⟨hx1, hx2⟩ := hxx
        have hkd := x.kind.toNat_lt
        have hu : IntKind.u64.wrap (x.kind.toNat : Int) = (x.kind.toNat : Int) := IntWalk.u64_in _ (by omega)
        have HM1 := Lib.hid (fun W => out_num P (by omega) x.tick W)
        have HM2 := Lib.hid (fun W => out_one (P ++ be 8 x.tick) (by rw [List.length_append, be_length]; omega) x.kind.toNat W)
        have HM3 := Lib.hid (fun W => out_text (P ++ be 8 x.tick ++ be 1 x.kind.toNat) x.text (by rw [List.length_append, List.length_append, be_length, be_length]; omega) (by omega) W)
        rw [show P ++ be 8 x.tick ++ be 1 x.kind.toNat ++ txt x.text.data.toList = pre tot l.length (l.take (k + 1)) by rw [HP.out, ent]; simp] at HM3
        clear HP
        generalize P ++ be 8 x.tick = P1 at *
        generalize P1 ++ be 1 x.kind.toNat = P2 at *
        generalize hP3 : pre tot l.length (l.take (k + 1)) = P3 at *
        have Hx := Lib.hid (Has.new wr #[.int .u64 x.tick, .int .u8 x.kind.toNat, .string x.text] 76)
        have hW2 := Lib.hid (hW.out.alloc hW.out.size (.cells #[.int .u64 x.tick, .int .u8 x.kind.toNat, .string x.text] 76))
        have hO2 := Lib.hid (hO.out.alloc (.cells #[.int .u64 x.tick, .int .u8 x.kind.toNat, .string x.text] 76))
        have hpG := hO.out.lt
        go_wp2_with fail
        generalize wr.alloc (.cells #[.int .u64 x.tick, .int .u8 x.kind.toNat, .string x.text] 76) = w3 at *
        generalize wr.heap.size = G at *
        have y0 : w3.drew.cell? ⟨G, 0, none⟩ = some (.int .u64 x.tick) := Hx.out.cell 0
        have y1 : w3.drew.cell? ⟨G, 1, none⟩ = some (.int .u8 x.kind.toNat) := Hx.out.cell 1
        have y2 : w3.drew.cell? ⟨G, 2, none⟩ = some (.string x.text) := Hx.out.cell 2
        have y3 : w3.drew.cell? ⟨p, 0, none⟩ = some (.string (bs P)) := hO2.out.cell 0
        have y4 : w3.drew.cell? ⟨p, 1, none⟩ = some (.int .i64 0) := hO2.out.cell 1
        go_region_law (first
          | (go_simp; go_at_call 21; (with_reducible refine Calls.mono (HM1.out _) ?_); rintro e w4 ⟨rfl, b4⟩; have X4 := Lib.hid (Hx.out.drew.below b4); have O4 := Lib.hid (hO2.out.drew.below b4); have a1 := X4.out.cell 1; have a2 := X4.out.cell 2)
          | (go_simp; go_at_call 21; (with_reducible refine Calls.mono (HM2.out _) ?_); rintro e w5 ⟨rfl, b5⟩; have X5 := Lib.hid (X4.out.below b5); have O5 := Lib.hid (O4.out.below b5); have a3 := X5.out.cell 2)
          | (go_simp; go_at_call 71; (with_reducible refine Calls.mono (HM3.out _) ?_); rintro e w6 ⟨rfl, b6⟩; have hO6 := O5.out.below b6; have k0 := hO6.cell 0; have k1 := hO6.cell 1; have kf := hO6.frozen))
        all_goals
          have HO7 := Lib.hid (setTwo hO6 (.string (bs P3)) (.int .i64 0))
          have hpw := hW2.out.size
          have HB7 := Lib.hid (((bthen hW2.out (bthen (bthen (after_drew b4) b5) b6)).setCell (p := ⟨p, 0, none⟩) (by dsimp only; omega) (.string (bs P3))).setCell (p := ⟨p, 1, none⟩) (by dsimp only; omega) (.int .i64 0))
          clear hO6 k0 k1 kf y0 y1 y2 y3 y4 b4 b5 b6 a1 a2 a3 X4 O4 X5 O5
          go_wp2_with fail
          exact ⟨⟨k + 1, by omega, by go_num, HB7, by rw [hP3]; exact HO7⟩, by simp [intOf]; omega⟩
      · obtain rfl : k = l.length := by omega
        rw [List.take_length] at hO
        have y3 := hO.out.cell 0
        have y4 := hO.out.cell 1
        have HS := Lib.hid (fun W => OutString_calls (bs (pre tot l.length l)) 0 W)
        go_wp2_with (go_at_call 22; refine Calls.mono (HS.out _) ?_; rintro e w5 ⟨rfl, b5⟩)
        go_ret
        exact ⟨rfl, bthen hW.out b5⟩
end Go.Proofs.Ytopacbmdoognjaa.Not
