/- The walk of NotesPlay. -/
import Derived.Test.YtopacbmdoognjaaNotesPlayMath
import Derived.Test.YtopacbmdoognjaaNotesReads
import Derived.Test.YtopacbmdoognjaaNotesBytes
namespace Go.Proofs.Ytopacbmdoognjaa.Not
open Go Go.RowKit Go.ChangeShapes Go.WideShapes Frame Oct
/-- The two notes and what they own, behind so many. -/
structure PlI (W : World) (tot pn pq : Nat) (L : List Nt) (v u : Value) (w : World) : Prop where
  n : Has pn #[.int .u64 (tot : Int), v] 74 w
  q : Has pq #[.int .u64 (tot : Int), u] 87 w
  nn : NS v L w
  qq : NS u L w
  vn : v.ownBlock ≠ some pn ∧ v.ownBlock ≠ some pq
  un : u.ownBlock ≠ some pn ∧ u.ownBlock ≠ some pq
  ne : pn ≠ pq
  b : Below W.heap.size W w
theorem PlI.below {W w w' : World} {tot pn pq : Nat} {L : List Nt} {v u : Value} (h : PlI W tot pn pq L v u w) (hb : Below w.heap.size w w') : PlI W tot pn pq L v u w' :=
  ⟨h.n.below hb, h.q.below hb, h.nn.below hb, h.qq.below hb, h.vn, h.un, h.ne, bthen h.b hb⟩
theorem PlI.store {W w : World} {tot pn pq tot1 : Nat} {L L1 : List Nt} {v u v1 u1 : Value} (h : PlI W tot pn pq L v u w) (hW : W.heap.size ≤ pn) (hW2 : W.heap.size ≤ pq) (k1 : NS v1 L1 w) (k2 : NS u1 L1 w)
    (o1 : v1.ownBlock ≠ some pn ∧ v1.ownBlock ≠ some pq) (o2 : u1.ownBlock ≠ some pn ∧ u1.ownBlock ≠ some pq) :
    PlI W tot1 pn pq L1 v1 u1 ((((w.setCell ⟨pn, 0, none⟩ (.int .u64 (tot1 : Int))).setCell ⟨pn, 1, none⟩ v1).setCell ⟨pq, 0, none⟩ (.int .u64 (tot1 : Int))).setCell ⟨pq, 1, none⟩ u1) := by
  refine ⟨?_, ?_, ?_, ?_, o1, o2, h.ne, ?_⟩
  · exact ((setTwo h.n _ _).set_other (by dsimp only; exact h.ne.symm) _).set_other (by dsimp only; exact h.ne.symm) _
  · exact setTwo ((h.q.set_other (by dsimp only; exact h.ne) _).set_other (by dsimp only; exact h.ne) _) _ _
  · exact (((k1.set o1.1 _).set o1.1 _).set o1.2 _).set o1.2 _
  · exact (((k2.set o2.1 _).set o2.1 _).set o2.2 _).set o2.2 _
  · exact (((h.b.setCell (p := ⟨pn, 0, none⟩) hW _).setCell (p := ⟨pn, 1, none⟩) hW _).setCell (p := ⟨pq, 0, none⟩) hW2 _).setCell (p := ⟨pq, 1, none⟩) hW2 _
theorem two_own {v v' : Value} {p q B : Nat} (h : v' = v ∨ ∀ g, v'.ownBlock = some g → B ≤ g) (hne : v.ownBlock ≠ some p ∧ v.ownBlock ≠ some q) (hp : p < B) (hq : q < B) : v'.ownBlock ≠ some p ∧ v'.ownBlock ≠ some q :=
  ⟨own_apart h hne.1 hp, own_apart h hne.2 hq⟩
theorem kept_mem {l : List Nt} {x : Nt} (h : x ∈ kept (acc l)) : x ∈ l ∧ x.text.size ≤ 64 := by
  have h1 := List.mem_of_mem_drop h
  unfold acc at h1
  rw [List.mem_filter] at h1
  exact ⟨h1.1, by simpa using h1.2⟩
theorem PlI.storeB {W w : World} {tot pn pq tot1 : Nat} {L L1 : List Nt} {v u v1 u1 : Value} (h : PlI W tot pn pq L v u w) (hW : W.heap.size ≤ pn) (hW2 : W.heap.size ≤ pq) (k1 : NS v1 L1 w) (k2 : NS u1 L1 w)
    (o1 : v1.ownBlock ≠ some pn ∧ v1.ownBlock ≠ some pq) (o2 : u1.ownBlock ≠ some pn ∧ u1.ownBlock ≠ some pq) :
    PlI W tot1 pn pq L1 v1 u1 ((((w.setCell ⟨pq, 0, none⟩ (.int .u64 (tot1 : Int))).setCell ⟨pq, 1, none⟩ u1).setCell ⟨pn, 0, none⟩ (.int .u64 (tot1 : Int))).setCell ⟨pn, 1, none⟩ v1) := by
  refine ⟨?_, ?_, ?_, ?_, o1, o2, h.ne, ?_⟩
  · exact setTwo ((h.n.set_other (by dsimp only; exact h.ne.symm) _).set_other (by dsimp only; exact h.ne.symm) _) _ _
  · exact ((setTwo h.q _ _).set_other (by dsimp only; exact h.ne) _).set_other (by dsimp only; exact h.ne) _
  · exact (((k1.set o1.2 _).set o1.2 _).set o1.1 _).set o1.1 _
  · exact (((k2.set o2.2 _).set o2.2 _).set o2.1 _).set o2.1 _
  · exact (((h.b.setCell (p := ⟨pq, 0, none⟩) hW2 _).setCell (p := ⟨pq, 1, none⟩) hW2 _).setCell (p := ⟨pn, 0, none⟩) hW _).setCell (p := ⟨pn, 1, none⟩) hW _
theorem onlythen {w x y : World} (h : Below w.heap.size w x) (k : Only w.heap.size x y) : Below w.heap.size w y := Only.to_below h k (Nat.le_refl _) h.size
set_option maxRecDepth 100000 in
set_option maxHeartbeats 16000000 in
theorem NotesPlay_walk (A : Option Addr) (c : Nat) (l : List Nt) (number : Nat) (w : World) (hA : Nts A l w) (hl : l.length ≤ maxLen) (hx : ∀ x ∈ l, x.Ok) (hnum : number < 18446744073709551616) :
    Calls Try.prog 14 #[.slice A l.length c, .int .u64 (number : Int)] w fun e w' => e = .returned (.bool true) ∧ Below w.heap.size w w' := by
  have HA := Lib.hid hA
  have HX := Lib.hid hx
  clear hA hx
  go_enter Try.func14, Try.ntmps14
  go_wp2_with fail
  refine (Awake_calls _).mono ?_
  rintro e w1 ⟨rfl, b1⟩
  have A1 := Lib.hid (HA.out.below b1)
  have B1 := Lib.hid b1
  clear b1 HA
  go_wp2_with fail
  refine (Light_calls A c l _ A1.out hl).mono ?_
  rintro e w2 ⟨rfl, b2⟩
  have A2 := Lib.hid (A1.out.below b2)
  have B2 := Lib.hid (bthen B1.out b2)
  clear b2 A1 B1
  rcases Bool.eq_false_or_eq_true (lightB l) with hL | hL
  · rw [hL]
    obtain ⟨h80, ht⟩ := light_iff hL
    have HT := Lib.hid ht
    clear ht hL hl
    go_wp2_with fail
    have hn0 := Lib.hid (show PlI w2 0 w2.heap.size (w2.heap.size + 1) [] (.slice none 0 0) (.slice none 0 0) ((w2.alloc (.cells #[.int .u64 0, .slice none 0 0] 74)).alloc (.cells #[.int .u64 0, .slice none 0 0] 87)) from by
      refine ⟨(Has.new w2 _ _).alloc _, ?_, NS.nil _, NS.nil _, by simp [Value.ownBlock], by simp [Value.ownBlock], by omega, ((Below.refl _ _).alloc (Nat.le_refl _) _).alloc (by simp) _⟩
      have := Has.new (w2.alloc (.cells #[.int .u64 0, .slice none 0 0] 74)) #[.int .u64 0, .slice none 0 0] 87
      simpa using this)
    go_loopw [26] (fun i wr => ∃ (k : Nat) (v u : Value), k ≤ l.length ∧ i = .int .i64 k ∧ Hid (PlI w2 (acc (l.take k)).length w2.heap.size (w2.heap.size + 1) (kept (acc (l.take k))) v u wr)) (fun i _ => l.length - (intOf i).toNat)
    case atStart => exact ⟨0, .slice none 0 0, .slice none 0 0, by omega, rfl, hn0⟩
    case round =>
      obtain ⟨k, v, u, hk, rfl, hI⟩ := hrel
      clear hn0
      have hle := Nat.le_trans (acc_le (l.take k)) (by simp; omega : (l.take k).length ≤ 80)
      have hkl := kept_le (acc (l.take k))
      obtain ⟨A3, c3, rfl, -, -⟩ := hI.out.nn
      obtain ⟨A4, c4, rfl, -, -⟩ := hI.out.qq
      by_cases hlt : k < l.length
      · obtain ⟨b, off, rfl, hbl, hi⟩ := (A2.out.below (hI.out.b)) (by omega)
        obtain ⟨c0, c1, c2⟩ := hi k hlt
        clear hi
        have HK := Lib.hid (take_succ_getD l k hlt)
        have HM := getD_mem l k hlt
        have HE := Lib.hid (addN_acc (l.take k) (l.getD k default) (by simp; omega))
        rw [← HK.out] at HE
        have hle1 := Nat.le_trans (acc_le (l.take (k + 1))) (by simp; omega : (l.take (k + 1)).length ≤ 80)
        have hkl1 := kept_le (acc (l.take (k + 1)))
        generalize l.getD k default = x at *
        have hxo := HX.out x HM
        obtain ⟨hx1, hx2⟩ := hxo
        have HC := Lib.hid (fun W h => Add_calls (acc (l.take k)).length (by omega) (kept (acc (l.take k))) (kept_le _) (.slice A3 (kept (acc (l.take k))).length c3) x hx2 W h)
        have HR := Lib.hid (fun W h => RAdd_calls (acc (l.take k)).length (by omega) (kept (acc (l.take k))) (kept_le _) (.slice A4 (kept (acc (l.take k))).length c4) x hx2 W h)
        rw [HE.out] at HC HR
        simp only [NV] at HC HR
        clear HE HK HM
        generalize (if 64 < x.text.size then (5 : Int) else 0) = ec at *
        generalize (acc (l.take k)).length = tot at *
        generalize kept (acc (l.take k)) = L at *
        generalize hT1 : (acc (l.take (k + 1))).length = tot1 at *
        generalize hL1 : kept (acc (l.take (k + 1))) = L1 at *
        have n0 := hI.out.n.cell 0
        have n1 := hI.out.n.cell 1
        have nl := hI.out.n.lt
        have q0 := hI.out.q.cell 0
        have q1 := hI.out.q.cell 1
        have ql := hI.out.q.lt
        have hI3 := Lib.hid (hI.out.below ((Below.refl wr.heap.size wr).alloc (Nat.le_refl _) (.cells #[.int .u64 x.tick, .int .u8 x.kind.toNat, .string x.text] 76)))
        have X3 := Lib.hid (Has.new wr #[.int .u64 x.tick, .int .u8 x.kind.toNat, .string x.text] 76)
        go_wp2_with fail
        refine (HC.out _ hI3.out.nn).mono ?_
        rintro e w4 ⟨v1, rfl, h1, b1, o1⟩
        have O1 := Lib.hid (two_own o1 hI.out.vn hI3.out.n.lt hI3.out.q.lt)
        have S4 := Lib.hid h1
        obtain ⟨A1, d1, rfl, -, -⟩ := h1
        have b5 := bthen b1 ((Below.refl w4.heap.size w4).alloc (Nat.le_refl _) (.cells #[.int .u64 (tot1 : Int), .slice A1 L1.length d1] 74))
        have I5 := Lib.hid (hI3.out.below b5)
        have hp9 := (hI3.out.below b1).q.lt
        have X5 := Lib.hid (X3.out.below b5)
        have S5 := Lib.hid (S4.out.below ((Below.refl w4.heap.size w4).alloc (Nat.le_refl _) (.cells #[.int .u64 (tot1 : Int), .slice A1 L1.length d1] 74)))
        have P5 := Lib.hid (Has.new w4 #[.int .u64 (tot1 : Int), .slice A1 L1.length d1] 74)
        clear b1 b5 o1 S4 hI3 X3 n0 n1 q0 q1 nl ql c0 c1 c2 HC
        have q0 := I5.out.q.cell 0
        have q1 := I5.out.q.cell 1
        have ql := I5.out.q.lt
        have x0 := X5.out.cell 0
        have x1 := X5.out.cell 1
        have x2 := X5.out.cell 2
        have xl := X5.out.lt
        go_wp2_with fail
        generalize wr.heap.size = px at *
        generalize w4.alloc (.cells #[.int .u64 (tot1 : Int), .slice A1 L1.length d1] 74) = w5 at *
        generalize w4.heap.size = p9 at *
        refine (HR.out _ I5.out.qq).mono ?_
        rintro e w4 ⟨v1, rfl, h1, b1, o1⟩
        have O2 := Lib.hid (two_own o1 I5.out.un I5.out.n.lt I5.out.q.lt)
        have S4 := Lib.hid h1
        obtain ⟨A5, d5, rfl, -, -⟩ := h1
        have b5 := bthen b1 ((Below.refl w4.heap.size w4).alloc (Nat.le_refl _) (.cells #[.int .u64 (tot1 : Int), .slice A5 L1.length d5] 87))
        have I6 := Lib.hid (I5.out.below b5)
        have hp11 := (I5.out.below b1).q.lt
        have S6 := Lib.hid (S5.out.below b5)
        have P6 := Lib.hid (P5.out.below b5)
        have T6 := Lib.hid (S4.out.below ((Below.refl w4.heap.size w4).alloc (Nat.le_refl _) (.cells #[.int .u64 (tot1 : Int), .slice A5 L1.length d5] 87)))
        have R6 := Lib.hid (Has.new w4 #[.int .u64 (tot1 : Int), .slice A5 L1.length d5] 87)
        clear b1 b5 o1 S4 I5 X5 S5 P5 q0 q1 x0 x1 x2 ql xl HR
        go_wp2_with fail
        generalize w4.alloc (.cells #[.int .u64 (tot1 : Int), .slice A5 L1.length d5] 87) = w6 at *
        generalize w4.heap.size = p11 at *
        have HO1 := Lib.hid (fun W h => Of_calls tot1 L1 (by omega) (.slice A1 L1.length d1) W h)
        have HO0 := Lib.hid (fun W h => Of_calls tot L (by omega) (.slice A3 L.length c3) W h)
        have HS1 := Lib.hid (fun v6 W h h' => RSame_self tot1 v6 (.slice A5 L1.length d5) L1 (by omega) W h h')
        have HS0 := Lib.hid (fun v6 W h h' => RSame_self tot v6 (.slice A4 L.length c4) L (by omega) W h h')
        have HSn := Lib.hid (fun W h h' => Same_calls tot tot1 (.slice A3 L.length c3) (.slice A1 L1.length d1) L L1 (by unfold maxLen; omega) (by unfold maxLen; omega) W h h')
        have HSr := Lib.hid (fun W h h' => RSame_calls tot tot1 (.slice A4 L.length c4) (.slice A5 L1.length d5) L L1 (by unfold maxLen; omega) (by unfold maxLen; omega) W h h')
        generalize (decide (tot = tot1) && same L L1) = β at HSn HSr
        generalize hpn : w2.heap.size = pn at *
        have y0 : w6.drew.cell? ⟨pn, 0, none⟩ = some (.int .u64 (tot : Int)) := I6.out.n.cell 0
        have y1 : w6.drew.cell? ⟨pn, 1, none⟩ = some (.slice A3 L.length c3) := I6.out.n.cell 1
        have y2 : w6.drew.cell? ⟨pn + 1, 0, none⟩ = some (.int .u64 (tot : Int)) := I6.out.q.cell 0
        have y3 : w6.drew.cell? ⟨pn + 1, 1, none⟩ = some (.slice A4 L.length c4) := I6.out.q.cell 1
        have y4 : w6.drew.cell? ⟨p9, 0, none⟩ = some (.int .u64 (tot1 : Int)) := P6.out.cell 0
        have y5 : w6.drew.cell? ⟨p9, 1, none⟩ = some (.slice A1 L1.length d1) := P6.out.cell 1
        have y6 : w6.drew.cell? ⟨p11, 0, none⟩ = some (.int .u64 (tot1 : Int)) := R6.out.cell 0
        have y7 : w6.drew.cell? ⟨p11, 1, none⟩ = some (.slice A5 L1.length d5) := R6.out.cell 1
        have HN := Lib.hid I6.out.n
        have HQ := Lib.hid I6.out.q
        have K0 := Lib.hid I6.out.nn.drew
        have K1 := Lib.hid I6.out.qq.drew
        have K2 := Lib.hid S6.out.drew
        have K3 := Lib.hid T6.out.drew
        go_region_held3 (fun w' => (w'.cell? ⟨pn, 0, none⟩ = some (.int .u64 (tot : Int)) ∧ w'.cell? ⟨pn, 1, none⟩ = some (.slice A3 L.length c3)) ∧ (w'.cell? ⟨pn + 1, 0, none⟩ = some (.int .u64 (tot : Int)) ∧ w'.cell? ⟨pn + 1, 1, none⟩ = some (.slice A4 L.length c4)) ∧ (w'.cell? ⟨p9, 0, none⟩ = some (.int .u64 (tot1 : Int)) ∧ w'.cell? ⟨p9, 1, none⟩ = some (.slice A1 L1.length d1)) ∧ (w'.cell? ⟨p11, 0, none⟩ = some (.int .u64 (tot1 : Int)) ∧ w'.cell? ⟨p11, 1, none⟩ = some (.slice A5 L1.length d5)) ∧ Below w6.heap.size w6 w')
          ((refine ⟨two2' (t := 74) ?_, two2' (t := 87) ?_, two2' (t := 74) ?_, two2' (t := 87) ?_, ?_⟩ <;> repeat (first | (with_reducible exact HN.out) | (with_reducible exact HQ.out) | (with_reducible exact P6.out) | (with_reducible exact R6.out) | (with_reducible exact Below.refl _ _) | (with_reducible refine Has.drew ?_) | (with_reducible refine Has.below ?_ (by with_reducible assumption)) | (with_reducible refine Below.drew ?_) | (with_reducible refine bthen ?_ (by with_reducible assumption)))))
          (first
            | (go_at_call 64; with_reducible refine Calls.mono (HO1.out _ ?_) ?_; exact K2.out; rintro e wa ⟨va, rfl, ha, ba, -⟩)
            | (go_at_call 63; (with_reducible refine Calls.mono (HSr.out _ ?_ ?_) ?_); (with_reducible exact ((((K1.out.below ba).below bb).below bc).below bd).below be'); (with_reducible exact ((((K3.out.below ba).below bb).below bc).below bd).below be'); rintro e wf ⟨rfl, bf⟩)
            | (go_at_call 63; with_reducible refine Calls.mono (HS1.out _ _ ?_ ?_) ?_; (with_reducible exact ha); exact K3.out.below ba; rintro e wb ⟨rfl, bb⟩)
            | (go_at_call 64; with_reducible refine Calls.mono (HO0.out _ ?_) ?_; exact (K0.out.below ba).below bb; rintro e wc ⟨vc, rfl, hc, bc, -⟩)
            | (go_at_call 63; with_reducible refine Calls.mono (HS0.out _ _ ?_ ?_) ?_; (with_reducible exact hc); exact ((K1.out.below ba).below bb).below bc; rintro e wd ⟨rfl, bd⟩)
            | (go_at_call 67; with_reducible refine Calls.mono (HSn.out _ ?_ ?_) ?_; exact (((K0.out.below ba).below bb).below bc).below bd; exact (((K2.out.below ba).below bb).below bc).below bd; rintro e we ⟨rfl, be'⟩))
        all_goals
          have hS := ‹(_ ∧ _) ∧ (_ ∧ _) ∧ (_ ∧ _) ∧ (_ ∧ _) ∧ Below w6.heap.size w6 _›
          obtain ⟨-, -, -, -, hB⟩ := hS
          have I7 := Lib.hid (I6.out.below hB)
          have P7 := Lib.hid (P6.out.below hB)
          have R7 := Lib.hid (R6.out.below hB)
          have S7 := Lib.hid (S6.out.below hB)
          have T7 := Lib.hid (T6.out.below hB)
          clear hB y0 y1 y2 y3 y4 y5 y6 y7 ha ba bb hc bc bd be' bf HN HQ K0 K1 K2 K3 HO1 HO0 HS1 HS0 HSn HSr I6 P6 R6 S6 T6
          have y4 := P7.out.cell 0
          have y5 := P7.out.cell 1
          have y6 := R7.out.cell 0
          have y7 := R7.out.cell 1
          have y0 := I7.out.n.cell 0
          have y1 := I7.out.n.cell 1
          have yf := I7.out.n.frozen
          have y2 := I7.out.q.cell 0
          have y3 := I7.out.q.cell 1
          have yg := I7.out.q.frozen
          have e1 : ¬ pn = p9 := by omega
          have e2 : ¬ p9 = pn := by omega
          have e3 : ¬ pn = p11 := by omega
          have e4 : ¬ p11 = pn := by omega
          have e5 : ¬ pn + 1 = p9 := by omega
          have e6 : ¬ p9 = pn + 1 := by omega
          have e7 : ¬ pn + 1 = p11 := by omega
          have e8 : ¬ p11 = pn + 1 := by omega
          have hpne : ¬ pn = pn + 1 := by omega
          have hpne2 : ¬ pn + 1 = pn := by omega
          go_wp2_with fail
          go_region
          all_goals
            subst hpn
            go_wp2_with fail
            have hst := PlI.store (tot1 := tot1) I7.out (Nat.le_refl _) (by omega) S7.out T7.out O1.out O2.out
            have hst2 := PlI.storeB (tot1 := tot1) I7.out (Nat.le_refl _) (by omega) S7.out T7.out O1.out O2.out
            refine ⟨⟨k + 1, .slice A1 L1.length d1, .slice A5 L1.length d5, by omega, by go_num, ?_⟩, by simp [intOf]; omega⟩
            rw [hT1, hL1]
            first
              | exact Lib.hid (hst.below (Below.refl _ _).drew)
              | exact Lib.hid (hst2.below (Below.refl _ _).drew)
      · obtain rfl : k = l.length := by omega
        rw [List.take_length] at hI hle hkl
        have HKL := Lib.hid (kept_length (acc l))
        have hL : ∀ x ∈ kept (acc l), x.text.size ≤ 64 ∧ x.tick < 18446744073709551616 := fun x h => ⟨(kept_mem h).2, (HX.out x (kept_mem h).1).1⟩
        generalize (acc l).length = tot at *
        generalize kept (acc l) = L at *
        have hLt : L.length ≤ tot := by have := HKL.out; omega
        have hrb := Lib.hid (read_back tot (by omega) L HKL.out hL)
        have HG := Lib.hid (fun W h => Get_calls tot (by omega) L (by omega) hLt (.slice A3 L.length c3) number hnum W h)
        have HRG := Lib.hid (fun W h => RGet_calls tot (by omega) L (by omega) hLt (.slice A4 L.length c4) number W h)
        generalize getN tot L number = gn at *
        obtain ⟨g, ok⟩ := gn
        simp only [NV] at HG HRG
        have hL2 : ∀ x ∈ L, x.text.size ≤ 100 ∧ x.tick < 18446744073709551616 := fun x hx => ⟨by have := (hL x hx).1; omega, (hL x hx).2⟩
        have HB := Lib.hid (fun W h => Bytes_calls tot L (by omega) hL2 (.slice A3 L.length c3) W h)
        have HRB := Lib.hid (fun W h => RBytes_calls tot (by omega) L (by omega) hL2 (.slice A4 L.length c4) W h)
        have hPl := pre_length tot L.length L (fun x hx => (hL2 x hx).1)
        have HRd := Lib.hid (fun b W h => Read_calls b (pre tot L.length L, 0) (by simp only; omega) W h)
        rw [hrb.out] at HRd
        dsimp only at HRd
        have HSs := Lib.hid (fun v6 W h h' => Same_calls tot tot v6 (.slice A3 L.length c3) L L (by unfold maxLen; omega) (by unfold maxLen; omega) W h h')
        rw [same_true rfl, show (decide (tot = tot) && true) = true by simp] at HSs
        have HEn := Lib.hid (fun b W h => End_calls b ([], 0) W h)
        rw [show iend ([], 0) = 0 from rfl] at HEn
        clear hrb hL hL2
        generalize pre tot L.length L = P at *
        clear hPl
        have n0 := hI.out.n.cell 0
        have n1 := hI.out.n.cell 1
        have nl := hI.out.n.lt
        have q0 := hI.out.q.cell 0
        have q1 := hI.out.q.cell 1
        have ql := hI.out.q.lt
        go_wp2_with fail
        refine (HG.out _ hI.out.nn).mono ?_
        rintro e w4 ⟨rfl, b4⟩
        have b5 := bthen b4 ((Below.refl w4.heap.size w4).alloc (Nat.le_refl _) (.cells #[.int .u64 g.tick, .int .u8 g.kind.toNat, .string g.text] 76))
        have I5 := Lib.hid (hI.out.below b5)
        have G5 := Lib.hid (Has.new w4 #[.int .u64 g.tick, .int .u8 g.kind.toNat, .string g.text] 76)
        clear b4 b5 n0 n1 q0 q1 nl ql HG hI
        have q0 := I5.out.q.cell 0
        have q1 := I5.out.q.cell 1
        have ql := I5.out.q.lt
        go_wp2_with fail
        generalize w4.alloc (.cells #[.int .u64 g.tick, .int .u8 g.kind.toNat, .string g.text] 76) = w5 at *
        generalize w4.heap.size = p13 at *
        refine (HRG.out _ I5.out.qq).mono ?_
        rintro e w4 ⟨rfl, b4⟩
        have b5 := bthen b4 ((Below.refl w4.heap.size w4).alloc (Nat.le_refl _) (.cells #[.int .u64 g.tick, .int .u8 g.kind.toNat, .string g.text] 93))
        have I6 := Lib.hid (I5.out.below b5)
        have G6 := Lib.hid (G5.out.below b5)
        have J6 := Lib.hid (Has.new w4 #[.int .u64 g.tick, .int .u8 g.kind.toNat, .string g.text] 93)
        clear b4 b5 q0 q1 ql HRG I5 G5
        have n0 := I6.out.n.cell 0
        have n1 := I6.out.n.cell 1
        have nl := I6.out.n.lt
        go_wp2_with fail
        generalize w4.alloc (.cells #[.int .u64 g.tick, .int .u8 g.kind.toNat, .string g.text] 93) = w6 at *
        generalize w4.heap.size = p15 at *
        refine (HB.out _ I6.out.nn).mono ?_
        rintro e w7 ⟨rfl, b7⟩
        have I7 := Lib.hid (I6.out.below b7)
        have G7 := Lib.hid (G6.out.below b7)
        have J7 := Lib.hid (J6.out.below b7)
        clear b7 n0 n1 nl HB I6 G6 J6
        go_wp2_with fail
        refine (New_calls _ _).mono ?_
        rintro e w8 ⟨rfl, rfl⟩
        have hb8 := (Below.refl w7.heap.size w7).alloc (Nat.le_refl _) (.cells #[.string (bs P), .int .i64 0] 116)
        have In8 := Lib.hid (show At w7.heap.size (P, 0) (w7.alloc (.cells #[.string (bs P), .int .i64 0] 116)) from Has.new w7 _ _)
        have I8 := Lib.hid (I7.out.below hb8)
        have G8 := Lib.hid (G7.out.below hb8)
        have J8 := Lib.hid (J7.out.below hb8)
        have HB8 := Lib.hid hb8
        have V7 := Lib.hid I7.out.nn
        have hg7 := G7.out.lt
        have hj7 := J7.out.lt
        have hn7 := I7.out.n.lt
        have hq7 := I7.out.q.lt
        clear hb8 G7 J7
        go_wp2_with fail
        generalize w7.alloc (.cells #[.string (bs P), .int .i64 0] 116) = w8 at *
        have HN := Lib.hid I8.out.n
        have HQ := Lib.hid I8.out.q
        have U8 := Lib.hid I8.out.qq.drew
        generalize w2.heap.size = pn at *
        have y0 : w8.drew.cell? ⟨pn, 0, none⟩ = some (.int .u64 (tot : Int)) := HN.out.cell 0
        have y1 : w8.drew.cell? ⟨pn, 1, none⟩ = some (.slice A3 L.length c3) := HN.out.cell 1
        have y2 : w8.drew.cell? ⟨pn + 1, 0, none⟩ = some (.int .u64 (tot : Int)) := HQ.out.cell 0
        have y3 : w8.drew.cell? ⟨pn + 1, 1, none⟩ = some (.slice A4 L.length c4) := HQ.out.cell 1
        have f4 : w8.drew.cell? ⟨p13, 0, none⟩ = some (.int .u64 g.tick) := G8.out.cell 0
        have f5 : w8.drew.cell? ⟨p13, 1, none⟩ = some (.int .u8 g.kind.toNat) := G8.out.cell 1
        have f6 : w8.drew.cell? ⟨p13, 2, none⟩ = some (.string g.text) := G8.out.cell 2
        have f7 : w8.drew.cell? ⟨p15, 0, none⟩ = some (.int .u64 g.tick) := J8.out.cell 0
        have f8 : w8.drew.cell? ⟨p15, 1, none⟩ = some (.int .u8 g.kind.toNat) := J8.out.cell 1
        have f9 : w8.drew.cell? ⟨p15, 2, none⟩ = some (.string g.text) := J8.out.cell 2
        go_region_held3 (fun w' => (w'.cell? ⟨pn, 0, none⟩ = some (.int .u64 (tot : Int)) ∧ w'.cell? ⟨pn, 1, none⟩ = some (.slice A3 L.length c3)) ∧ (w'.cell? ⟨pn + 1, 0, none⟩ = some (.int .u64 (tot : Int)) ∧ w'.cell? ⟨pn + 1, 1, none⟩ = some (.slice A4 L.length c4)) ∧ (w'.cell? ⟨p13, 0, none⟩ = some (.int .u64 g.tick) ∧ w'.cell? ⟨p13, 1, none⟩ = some (.int .u8 g.kind.toNat) ∧ w'.cell? ⟨p13, 2, none⟩ = some (.string g.text)) ∧ (w'.cell? ⟨p15, 0, none⟩ = some (.int .u64 g.tick) ∧ w'.cell? ⟨p15, 1, none⟩ = some (.int .u8 g.kind.toNat) ∧ w'.cell? ⟨p15, 2, none⟩ = some (.string g.text)) ∧ Below w7.heap.size w7 w')
          ((refine ⟨two2' (t := 74) ?_, two2' (t := 87) ?_, four2 (t := 76) ?_, four2 (t := 93) ?_, ?_⟩ <;> repeat (first | (with_reducible exact HN.out) | (with_reducible exact HQ.out) | (with_reducible exact G8.out) | (with_reducible exact J8.out) | (with_reducible exact HB8.out) | (with_reducible refine Has.drew ?_) | (with_reducible refine Has.below ?_ (by with_reducible assumption)) | (with_reducible refine Has.only ?_ (by with_reducible assumption) (by omega)) | (with_reducible refine Below.drew ?_) | (with_reducible refine onlythen ?_ (by with_reducible assumption)) | (with_reducible refine bthen ?_ (by with_reducible assumption)))))
          (first
            | (go_at_call 69; with_reducible refine Calls.mono (HRB.out _ ?_) ?_; exact U8.out; rintro e wa ⟨rfl, ba⟩)
            | (go_at_call 61; with_reducible refine Calls.mono (HRd.out _ _ ?_) ?_; exact atBelow (atDrew In8.out) ba; rintro e wb ⟨vR, rfl, hR, iR, oR, -⟩)
            | (go_at_call 67; with_reducible refine Calls.mono (HSs.out _ _ ?_ ?_) ?_; (with_reducible exact hR); exact V7.out.below (onlythen (bthen HB8.out.drew ba) oR); rintro e wc ⟨rfl, bc⟩)
            | (go_at_call 47; with_reducible refine Calls.mono (HEn.out _ _ ?_) ?_; exact atBelow iR bc; rintro e wd ⟨rfl, rfl⟩))
        all_goals
          have hS := ‹(_ ∧ _) ∧ (_ ∧ _) ∧ (_ ∧ _ ∧ _) ∧ (_ ∧ _ ∧ _) ∧ Below w7.heap.size w7 _›
          obtain ⟨-, -, -, -, hB⟩ := hS
          have B9 := Lib.hid (bthen B2.out (bthen I7.out.b hB))
          clear hB y0 y1 y2 y3 f4 f5 f6 f7 f8 f9
          go_wp2_with fail
          go_ret
          exact ⟨by simp, B9.out⟩
  · rw [hL]
    go_wp2_with fail
    go_ret
    exact ⟨rfl, B2.out⟩
end Go.Proofs.Ytopacbmdoognjaa.Not
