/- The walk of wal.read. -/
import Derived.Test.YtjnjcjildiadgaaDoorWalBegin
import Derived.Test.YtjnjcjildiadgaaDoorSegRefC
import Derived.Test.YtjnjcjildiadgaaDoorOctNum
namespace Go.Proofs.YtjnjcjildiadgaaDoor.Wl
open Go Go.RowKit Frame Oct Disk
/-- What read tells of an area. -/
def rdT : Option (Nat × List (List UInt8)) → Nat × List (List UInt8) × Bool
  | none => (0, [], false)
  | some (g, rs) => (g, rs, true)
def RdPost (o : Option (Nat × List (List UInt8))) (w : World) (e : Ending) (w' : World) : Prop :=
  ∃ v, e = .returned (.tuple #[.int .u64 ((rdT o).1 : Int), v, .bool (rdT o).2.2]) ∧ w'.ownsRow w.heap.size 9 1 v (rdT o).2.1.length (Sg.cells (rdT o).2.1) ∧ Below w.heap.size w w'
theorem own_base {w : World} {B B' e size n : Nat} {v : Value} {xs : List Value} (h : w.ownsRow B e size v n xs) (hb : B' ≤ B) : w.ownsRow B' e size v n xs := by
  obtain ⟨hlen, hv⟩ := h
  refine ⟨hlen, ?_⟩
  rcases hv with hv | ⟨g, cap, cur, rfl, hb', hg, hr⟩
  · exact .inl hv
  · exact .inr ⟨g, cap, cur, rfl, by omega, hg, hr⟩
theorem own_set {w : World} {B e size n : Nat} {v : Value} {xs : List Value} (h : w.ownsRow B e size v n xs) (p : Addr) (hp : p.block < B) (x : Value) : (w.setCell p x).ownsRow B e size v n xs := by
  obtain ⟨hlen, hv⟩ := h
  refine ⟨hlen, ?_⟩
  rcases hv with hv | ⟨g, cap, cur, rfl, hb', hg, hr⟩
  · exact .inl hv
  · exact .inr ⟨g, cap, cur, rfl, hb', (Below.heap_setCell w p x g (by omega)).trans hg, hr⟩
/-- A slice value of these strings, in a block of strings that is known whole. -/
def ST (v : Value) (l : List (List UInt8)) (w : World) : Prop := ∃ A c, v = .slice A l.length c ∧ l.length ≤ c ∧ c ≤ maxLen ∧ (A = none → c = 0) ∧ (∀ a, A = some a → ∃ b off, a = ⟨b, off, none⟩) ∧
  (0 < l.length → ∃ b off cs, A = some ⟨b, off, none⟩ ∧ Has b cs 9 w ∧ ∀ i, i < l.length → cs[off + i]? = some (.string (bs (l.getD i []))))
theorem ST.sv {v : Value} {l : List (List UInt8)} {w : World} (h : ST v l w) : Sg.SV v l w := by
  obtain ⟨A, c, hv, h1, h2, h3, h4, h5⟩ := h
  refine ⟨A, c, hv, h1, h2, h3, h4, fun h0 => ?_⟩
  obtain ⟨b, off, cs, hA, hh, hi⟩ := h5 h0
  exact ⟨b, off, hA, hh.lt, fun i hil => by rw [hh.cell]; exact hi i hil⟩
theorem ST.map {v : Value} {l : List (List UInt8)} {w w' : World} (h : ST v l w) (hk : ∀ b cs, Has b cs 9 w → Has b cs 9 w') : ST v l w' := by
  obtain ⟨A, c, hv, h1, h2, h3, h4, h5⟩ := h
  refine ⟨A, c, hv, h1, h2, h3, h4, fun h0 => ?_⟩
  obtain ⟨b, off, cs, hA, hh, hi⟩ := h5 h0
  exact ⟨b, off, cs, hA, hk _ _ hh, hi⟩
theorem ST.below {v : Value} {l : List (List UInt8)} {w w' : World} (h : ST v l w) (hb : Below w.heap.size w w') : ST v l w' := h.map fun _ _ hh => hh.below hb
theorem ST.kept {v : Value} {l : List (List UInt8)} {w w' : World} (h : ST v l w) (hk : Kept2 w w') : ST v l w' := h.map fun b cs hh => hk b cs _ (by decide) (by decide) (by decide) (by decide) hh
theorem ST.nil (w : World) : ST (.slice none 0 0) [] w := ⟨none, 0, rfl, Nat.le_refl _, Nat.zero_le _, (fun _ => rfl), (fun a h => by cases h), fun h => absurd h (Nat.lt_irrefl 0)⟩
theorem ST.of_own {base n : Nat} {v : Value} {l : List (List UInt8)} {w : World} (h : w.ownsRow base 9 1 v n (Sg.cells l)) : ST v l w := by
  obtain ⟨A, c, hv, h1, h2, h3, h4, h5⟩ := Sg.SV.of_own h
  refine ⟨A, c, hv, h1, h2, h3, h4, fun h0 => ?_⟩
  obtain ⟨b, off, hA, hlt, hi⟩ := h5 h0
  obtain ⟨hlen, hvv⟩ := h
  rcases hvv with ⟨rfl, hn⟩ | ⟨g, cap, cur, rfl, hb', hg, hr⟩
  · rw [hA] at hv; cases hv
  · rw [hA] at hv
    injection hv with e1 e2
    injection e1 with e1
    injection e1 with e1 e3
    subst e1
    have hh : Has g cur 9 w := hg
    exact ⟨g, off, cur, hA, hh, fun i hil => by rw [← hh.cell]; exact hi i hil⟩
theorem blk_ar (last : List UInt8) (h a k : Nat) (hk : k < h) : blk last (h * a + k) = ((ar last h a).drop (64 * k)).take 64 := by
  unfold blk ar
  rw [List.drop_take, List.take_take, List.drop_drop]
  congr 1
  · omega
  · congr 1; omega
theorem inum8 (l : List UInt8) (h : 8 ≤ l.length) : inum (l, 0) 8 = (num (l.take 8), (l.drop 8, 0)) := by
  unfold inum raw
  rw [show min (8 : Int) 8 = 8 from rfl, if_neg (by simp), if_neg (by show ¬ ((l.length : Int) < 8); omega)]
  rfl
theorem rd_gen (area : List UInt8) : num (((area.take 64).drop 4).take 8) = genOf area := by
  unfold genOf
  rw [List.drop_take, List.take_take]
  rfl
theorem rd_front (area : List UInt8) : (area.take 64).take 17 = area.take 17 := by rw [List.take_take]; rfl
theorem bs_bne (a b : List UInt8) : ((bs a).toList != (bs b).toList) = (a != b) := by unfold bne; rw [Frm.bs_beq]
set_option maxRecDepth 100000 in
set_option maxHeartbeats 1000000 in
theorem read_calls (B p d L n : Nat) (s : DSt) (l : LSt) (hg : Disk.Good n s) (hw0 : s.wait = []) (ho : s.on = true) (h4 : 4 ≤ n) (a : Nat) (ha : a ≤ 1) (w0 w : World) (hT : Crc.Tab w0) (hTB : 0 < B) (h : WD B p d L s l w0 w) :
    Calls Tryd.prog 33 #[.pointer (some ⟨p, 0, none⟩), .int .i64 (a : Int)] w (RdPost (rd (ar s.last (n / 2) a)) w) := by
  have hn := hg.hn
  have HT := Lib.hid (tab_bel hT hTB h.bel)
  have hha : n / 2 * a ≤ n / 2 := by have := Nat.mul_le_mul_left (n / 2) ha; omega
  have hal : (ar s.last (n / 2) a).length = 64 * (n / 2) := ar_length _ _ _ (by rw [hg.len]; omega)
  have HC := Lib.hid (fun W (k1 : One B d L s W) (k2 : Lg p d l W) => blocks_calls B p d L n s l hg W k1 k2)
  have HRD := Lib.hid (show ∀ k, k < n / 2 → ∀ W, One B d L s W → Calls Tryd.prog 43 #[.pointer (some ⟨d, 0, none⟩), .int .i64 ((n / 2 * a + k : Nat) : Int)] W fun e w' => e = .returned (.tuple #[.string (bs (((ar s.last (n / 2) a).drop (64 * k)).take 64)), .int .i64 0]) ∧ Below W.heap.size W w' from fun k hk W k1 => by
    obtain ⟨wv, hd⟩ := k1
    have hc : chk s ((n / 2 * a + k : Nat) : Int) = 0 := by
      unfold chk
      rw [if_neg (by rw [ho]; decide), if_neg]
      have := hg.len
      omega
    have := Read_yes B d L n wv s (n / 2 * a + k) hc hg W hd
    rw [hw0, show all s.last [] = s.last from rfl, blk_ar _ _ _ _ hk] at this
    exact this)
  have H := Lib.hid h
  have hT0 := Lib.hid hT
  clear h hT ho hw0
  have HG := Lib.hid hg
  have hq2 : n / 2 ≤ 2048 := by omega
  have hq1 : 2 ≤ n / 2 := by omega
  clear hg h4 hn
  generalize ar s.last (n / 2) a = A at *
  generalize n / 2 = q at *
  have HE0 := Lib.hid (show (a : Int) * (q : Int) = ((q * a : Nat) : Int) by rw [Nat.mul_comm]; rfl)
  generalize q * a = qa at *
  have HD := Lib.hid H.out.drew
  have y0 : w.drew.cell? ⟨p, 0, none⟩ = some (.pointer (some ⟨d, 0, none⟩)) := HD.out.lg.c0
  have e1 := HE0.out
  have g1 : IntKind.i64.wrap ((a : Int) * (q : Int)) = ((qa + 0 : Nat) : Int) := by rw [e1]; exact IntWalk.i64_in _ (by omega)
  clear e1
  have HB1 := Lib.hid (HC.out _ HD.out.one HD.out.lg)
  have HR0 := Lib.hid (HRD.out 0 (by omega) _ HD.out.one)
  rw [Nat.mul_zero, List.drop_zero] at HR0
  go_enter Tryd.func33, Tryd.ntmps33
  go_wp2_with fail
  go_region_held3 (fun w' => w'.cell? ⟨p, 0, none⟩ = some (.pointer (some ⟨d, 0, none⟩)))
    (first
      | with_reducible exact y0
      | with_reducible exact (Lg.c0 (HD.out.below b2).lg))
    (first
      | (go_at_call 39; (with_reducible refine HB1.out.mono ?_); rintro e w2 ⟨rfl, rfl⟩)
      | (go_at_call 43; refine HR0.out.mono ?_; rintro e w2 ⟨rfl, b2⟩))
  have H2 := Lib.hid (HD.out.below b2)
  have BA := Lib.hid (after_drew' b2)
  clear b2 y0 g1 HR0 HB1
  have hF : (A.take 64).length = 64 := by simp; omega
  have HGN := Lib.hid (rd_gen A)
  have HFR := Lib.hid (rd_front A)
  generalize hFF : A.take 64 = F at *
  clear hFF
  have hzF : (bs F).size = 64 := by rw [bs_size]; exact hF
  have hx4 : (bs F).extract 4 64 = bs (F.drop 4) := by rw [← hF]; exact extract_from F 4
  have hx17 : (bs F).extract 0 17 = bs (F.take 17) := extract_to F 17
  go_wp2_with fail
  refine (Oct.New_calls _ _).mono ?_
  rintro e w3 ⟨rfl, rfl⟩
  have HA := Lib.hid (show At w2.heap.size (F.drop 4, 0) (w2.alloc (.cells #[.string (bs (F.drop 4)), .int .i64 0] 95)) from Has.new w2 _ _)
  have B3 := Lib.hid ((Below.refl w2.heap.size w2).alloc (Nat.le_refl _) (.cells #[.string (bs (F.drop 4)), .int .i64 0] 95))
  generalize w2.alloc (.cells #[.string (bs (F.drop 4)), .int .i64 0] 95) = w3 at *
  have HX8 := Lib.hid (inum8 (F.drop 4) (by simp; omega))
  go_wp2_with fail
  refine (Oct.Num_calls w2.heap.size (F.drop 4, 0) 8 (by unfold maxLen; simp; omega) _ HA.out).mono ?_
  rintro e w4 ⟨rfl, -, o4⟩
  rw [HX8.out, HGN.out]
  have B4 := Lib.hid (Only.to_below B3.out o4 (Nat.le_refl _) (by have := HA.out.lt; omega))
  have H4 := Lib.hid (H2.out.below B4.out)
  have BB4 := Lib.hid (bthen BA.out B4.out)
  clear o4 B4 B3 HA BA H2 HX8 HGN
  have hgl := genOf_lt A
  have HRDe := Lib.hid (show rd A = if A.take 17 = headOf (genOf A) then some (genOf A, Sg.scan (A.drop 64)) else none from rfl)
  generalize genOf A = g at *
  go_wp2_with fail
  refine (headOf_calls g _ (tab_bel hT0.out hTB H4.out.bel)).mono ?_
  rintro e w5 ⟨rfl, b5⟩
  have H5 := Lib.hid (H4.out.below b5)
  have BB5 := Lib.hid (bthen BB4.out b5)
  clear b5 H4 BB4
  have hzH : (bs (headOf g)).size = 17 := by rw [bs_size, headOf_length]
  by_cases hc : A.take 17 = headOf g
  · have hne : ((bs (F.take 17)).toList == (bs (headOf g)).toList) = true := by rw [Frm.bs_beq, HFR.out]; simpa using hc
    have hne2 : ((bs (F.take 17)).toList != (bs (headOf g)).toList) = false := by unfold bne; rw [hne]; rfl
    have HE := Lib.hid (HRDe.out.trans (if_pos hc))
    clear hc
    have HI0 := Lib.hid (Bld.Is.fresh w5)
    have HB0 := Lib.hid ((Below.refl w5.heap.size w5).alloc (Nat.le_refl _) (.cells #[.pointer none, .slice none 0 0] 74))
    have HC5 := Lib.hid (HC.out _ (H5.out.below HB0.out).one (H5.out.below HB0.out).lg)
    go_wp2_with fail
    refine HC5.out.mono ?_
    rintro e w6 ⟨rfl, rfl⟩
    go_wp2_with fail
    have hq1' : (1 : Int) ≤ (q : Int) := by omega
    go_loopw [46] (fun i wr => ∃ k : Nat, k ≤ q - 1 ∧ i = .int .i64 k ∧ Hid (Below w5.heap.size w5 wr) ∧ Hid (Bld.Is w5.heap.size w5.heap.size ((A.drop 64).take (64 * k)) wr)) (fun i _ => q - (intOf i).toNat)
    case atStart => exact ⟨0, by omega, rfl, HB0, HI0⟩
    case round =>
      obtain ⟨k, hk, rfl, hB, hI⟩ := hrel
      clear HI0 HB0 HC5
      by_cases hlt : k < q - 1
      · have hlt' : (k : Int) < (q : Int) - 1 := by omega
        have HD6 := Lib.hid (H5.out.below hB.out).drew
        have y0 : wr.drew.cell? ⟨p, 0, none⟩ = some (.pointer (some ⟨d, 0, none⟩)) := HD6.out.lg.c0
        have HB1 := Lib.hid (HC.out _ HD6.out.one HD6.out.lg)
        have HR1 := Lib.hid (HRD.out (1 + k) (by omega) _ HD6.out.one)
        have e1 := HE0.out
        have g1 : IntKind.i64.wrap ((a : Int) * (q : Int)) = (qa : Int) := by rw [e1]; exact IntWalk.i64_in _ (by omega)
        have g2 : IntKind.i64.wrap ((qa : Int) + 1) = (qa : Int) + 1 := IntWalk.i64_in _ (by omega)
        have g3 : IntKind.i64.wrap ((qa : Int) + 1 + (k : Int)) = ((qa + (1 + k) : Nat) : Int) := by rw [IntWalk.i64_in _ (by omega)]; omega
        clear e1
        have HSt := Lib.hid (show (A.drop 64).take (64 * k) ++ (A.drop (64 * (1 + k))).take 64 = (A.drop 64).take (64 * (k + 1)) by
          rw [Nat.mul_succ, List.take_add, List.drop_drop]
          congr 3
          omega)
        have hbl : ((A.drop (64 * (1 + k))).take 64).length = 64 := by simp; omega
        have hbk : ((A.drop 64).take (64 * k)).length ≤ 200000 := by simp; omega
        generalize (A.drop (64 * (1 + k))).take 64 = bl at *
        generalize (A.drop 64).take (64 * k) = pre at *
        go_wp2_with fail
        go_region_held3 (fun w' => w'.cell? ⟨p, 0, none⟩ = some (.pointer (some ⟨d, 0, none⟩)))
          (first
            | with_reducible exact y0
            | with_reducible exact (Lg.c0 (HD6.out.below b2).lg))
          (first
            | (go_at_call 39; (with_reducible refine HB1.out.mono ?_); rintro e w7 ⟨rfl, rfl⟩)
            | (go_at_call 43; refine HR1.out.mono ?_; rintro e w7 ⟨rfl, b2⟩))
        have HB7 := Lib.hid (bthen hB.out (after_drew' b2))
        have HI7 := Lib.hid (Sg.is_below hI.out (after_drew' b2))
        clear b2 y0 g1 g2 g3 HB1 HR1
        have hs7 := HB7.out.size
        have hzl : (bs bl).size = 64 := by rw [bs_size]; exact hbl
        go_wp2_with fail
        refine (Bld.WriteString_calls w5.heap.size w5.heap.size pre (bs bl) w7 HI7.out (by omega) hs7).mono ?_
        rintro e w8 ⟨rfl, hI8, b8⟩
        rw [bs_toList, HSt.out] at hI8
        have HI8 := Lib.hid hI8
        have HB8 := Lib.hid (HB7.out.trans b8)
        clear hI8 b8
        go_wp2_with fail
        exact ⟨⟨k + 1, by omega, by go_num, HB8, HI8⟩, by simp [intOf]; omega⟩
      · obtain rfl : k = q - 1 := by omega
        have hlt' : ¬ (((q - 1 : Nat) : Int) < (q : Int) - 1) := by omega
        have hI' := hI.out
        rw [show (A.drop 64).take (64 * (q - 1)) = A.drop 64 from List.take_of_length_le (by simp; omega)] at hI'
        have HI' := Lib.hid hI'
        have hsz := hB.out.size
        clear hI hI'
        go_wp2_with fail
        refine (Bld.String_calls w5.heap.size w5.heap.size (A.drop 64) _ HI'.out hsz).mono ?_
        rintro e w6 ⟨rfl, b6⟩
        have HB6 := Lib.hid (hB.out.trans b6)
        clear b6
        go_wp2_with fail
        refine (Sg.Scan_own (A.drop 64) (by simp; omega) _ (tab_bel hT0.out hTB (H5.out.below HB6.out).bel)).mono ?_
        rintro e w7 ⟨v, rfl, hv, b7⟩
        have HV := Lib.hid hv
        have HB7 := Lib.hid (bthen HB6.out b7)
        clear hv b7
        go_wp2_with fail
        go_ret3
        unfold RdPost
        rw [HE.out]
        exact ⟨v, rfl, own_base HV.out (Nat.le_trans BB5.out.size HB6.out.size), bthen BB5.out HB7.out⟩
  · have hne : ((bs (F.take 17)).toList == (bs (headOf g)).toList) = false := by rw [Frm.bs_beq, HFR.out]; simpa using hc
    have hne2 : ((bs (F.take 17)).toList != (bs (headOf g)).toList) = true := by unfold bne; rw [hne]; rfl
    have HE := Lib.hid (HRDe.out.trans (if_neg hc))
    clear hc
    go_wp2_with fail
    go_ret3
    unfold RdPost
    rw [HE.out]
    exact ⟨_, rfl, World.ownsRow_nil _ _ _ _, BB5.out⟩
end Go.Proofs.YtjnjcjildiadgaaDoor.Wl
