/- The walk of OctetBack. -/
import Derived.Test.YtopacbmdoognjaaOctBackMath
import Derived.Test.YtopacbmdoognjaaOctWritten
import Derived.Deep.QuietTactic
import Derived.BigQuiet
import Derived.Deep.RegionHeld3
namespace Go.Proofs.Ytopacbmdoognjaa.Oct
open Go Go.RowKit Frame
/-- The reader, and the round's own world. -/
structure Bi (q : St) (b : Nat) (w wr : World) : Prop where
  i : At b q wr
  bel : Below w.heap.size w wr
  b0 : w.heap.size ≤ b
structure Bk (q : St) (b xb : Nat) (cs : Array Value) (w wr : World) : Prop where
  i : At b q wr
  x : Has xb cs 27 wr
  bel : Below w.heap.size w wr
  ne : xb ≠ b ∧ w.heap.size ≤ b
theorem Bk.turn {q q' : St} {b xb : Nat} {cs : Array Value} {w wr w1 : World} (h : Bk q b xb cs w wr) (hi : At b q' w1) (ho : Only b wr w1) : Bk q' b xb cs w w1 :=
  ⟨hi, h.x.only ho h.ne.1, Only.to_below h.bel ho h.ne.2 h.bel.size, h.ne⟩
theorem Bk.drew {q : St} {b xb : Nat} {cs : Array Value} {w wr : World} (h : Bk q b xb cs w wr) : Bk q b xb cs w wr.drew := ⟨(h.i : Has _ _ _ _).drew, h.x.drew, h.bel.drew, h.ne⟩
theorem Bk.drewN {q : St} {b xb : Nat} {cs : Array Value} {w wr : World} (h : Bk q b xb cs w wr) (n : Nat) : Bk q b xb cs w (wr.drewN n) :=
  ⟨(h.i : Has _ _ _ _).below (⟨rfl, rfl, rfl, Nat.le_refl _, fun _ _ => rfl⟩), h.x.below (⟨rfl, rfl, rfl, Nat.le_refl _, fun _ _ => rfl⟩), bthen h.bel ⟨rfl, rfl, rfl, Nat.le_refl _, fun _ _ => rfl⟩, h.ne⟩
theorem Bk.bi {q : St} {b xb : Nat} {cs : Array Value} {w wr : World} (h : Bk q b xb cs w wr) : Bi q b w wr := ⟨h.i, h.bel, h.ne.2⟩
theorem items_drop (l : List Item) (k : Nat) (h : k < l.length) : items (l.drop k) = item (l.getD k default) ++ items (l.drop (k + 1)) := by
  rw [List.drop_eq_getElem_cons h, items, List.flatMap_cons]
  simp [items, List.getD_eq_getElem?_getD, h]
theorem Bi.item {q : St} {b : Nat} {w wr : World} (h : Bi q b w wr) (cs : Array Value) : Bk q b wr.heap.size cs w (wr.alloc (.cells cs 27)) := by
  have h1 := Has.lt h.i
  have h4 : Below wr.heap.size wr (wr.alloc (.cells cs 27)) := (Below.refl _ _).alloc (Nat.le_refl _) _
  exact ⟨(h.i : Has _ _ _ _).below h4, Has.new wr _ _, bthen h.bel h4, by omega, h.b0⟩
set_option maxRecDepth 100000 in
set_option maxHeartbeats 1000000 in
theorem OctetBack_walk (A : Option Addr) (c : Nat) (l : List Item) (w : World) (hA : Items A l w) (hok : ∀ x ∈ l, x.Ok) (hlm : l.length ≤ maxLen) :
    Calls Try.prog 8 #[.slice A l.length c] w fun e w' => e = .returned (.bool true) ∧ Below w.heap.size w w' := by
  have HA := Lib.hid hA
  have HO := Lib.hid hok
  clear hA hok
  go_enter Try.func8, Try.ntmps8
  go_wp2_with fail
  refine (awake_calls _).mono ?_
  rintro e w1 ⟨rfl, hb1⟩
  go_wp2_with fail
  have HA1 := Lib.hid (HA.out.below hb1)
  refine (light_calls A c l w1 HA1.out hlm).mono ?_
  rintro e w2 ⟨rfl, hb2⟩
  have HB2 := Lib.hid (bthen hb1 hb2)
  have HA2 := Lib.hid (HA1.out.below hb2)
  clear hb1 hb2 HA1
  cases hl : lightB l with
  | false =>
    go_wp2
    go_ret
    exact ⟨rfl, HB2.out⟩
  | true =>
    obtain ⟨hn, ht⟩ := light_iff hl
    have HL := Lib.hid hl
    have HT := Lib.hid ht
    clear hl ht
    go_wp2_with fail
    refine (written_calls A c l w2 HA2.out HO.out HL.out).mono ?_
    rintro e w3 ⟨rfl, hb3⟩
    go_wp2_with fail
    refine (OutString_calls _ _ _).mono ?_
    rintro e w4 ⟨rfl, hb4⟩
    go_wp2_with fail
    refine (New_calls _ _).mono ?_
    rintro e w5 ⟨rfl, rfl⟩
    have HA4 := Lib.hid (HA2.out.below (bthen hb3 hb4))
    have HB4 := Lib.hid (bthen HB2.out (bthen hb3 hb4))
    clear hb3 hb4 HA2
    have HI := Lib.hid (show Bi (items (l.drop 0), 0) w4.heap.size w4 (w4.alloc (.cells #[.string (bs (items l)), .int .i64 0] 116)) from ⟨Has.new w4 _ _, (Below.refl _ _).alloc (Nat.le_refl _) _, Nat.le_refl _⟩)
    generalize w4.alloc (.cells #[.string (bs (items l)), .int .i64 0] 116) = w5 at *
    go_wp2_with fail
    go_loopw [19] (fun i wr => ∃ (k : Nat), k ≤ l.length ∧ i = .int .i64 k ∧ Hid (Bi (items (l.drop k), 0) w4.heap.size w4 wr)) (fun i _ => l.length - (intOf i).toNat)
    case atStart => exact ⟨0, by omega, rfl, HI⟩
    case round =>
      obtain ⟨k, hk, rfl, hB⟩ := hrel
      by_cases hlt : k < l.length
      · obtain ⟨b, off, rfl, hbw, hi⟩ := HA4.out (by omega)
        obtain ⟨c0, c1, c2, c3⟩ := hi k hlt
        have hc := fun o => hB.out.bel.cell (p := ⟨b, o, none⟩) hbw
        rw [← hc] at c0 c1 c2 c3
        clear hi hc
        have HD := items_drop l k hlt
        have HM := Lib.hid (getD_mem l k hlt)
        have hxs := HT.out _ HM.out
        obtain ⟨hxn, hxb, _⟩ := HO.out _ HM.out
        have hle : (items (l.drop k)).length ≤ 4000 := by
          have := items_le (l.drop k) fun x hx => HT.out x (List.mem_of_mem_drop hx)
          have h2 : (l.drop k).length ≤ l.length := by rw [List.length_drop]; omega
          omega
        rw [HD] at hB hle
        clear HD
        generalize l.getD k default = x at *
        generalize hm : items (l.drop (k + 1)) = m at *
        have HW := Lib.hid hm
        clear hm
        by_cases h0 : x.kind = 0
        · have h0' : x.kind.toNat = 0 := by rw [h0]; rfl
          rw [(item_case x).1 h0] at hB hle
          rw [h0'] at c0
          have HR := Lib.hid (hB.out.item #[.int .u8 0, .int .u64 x.num, .int .i64 x.bytes, .string x.text])
          clear h0 h0' hB
          have HE := Lib.hid (be_back x.num x.bytes m)
          generalize be (wid x.bytes) x.num ++ m = q at *
          go_wp2_with fail
          have HX := Lib.hid HR.out.drew
          go_region_held3 (fun w' => w'.cell? ⟨wr.heap.size, 2, none⟩ = some (.int .i64 x.bytes)) (first | exact HX.out.x.cell 2 | exact y2 | go_keep) (first | (go_at_call 38; refine (Num_calls _ (q, 0) x.bytes (by unfold maxLen; simp only; omega) _ HX.out.i).mono ?_; rintro e w5 ⟨rfl, h3, h4⟩; have HR5 := Lib.hid (HX.out.turn h3 h4); clear h3 h4; have y2 : w5.cell? ⟨wr.heap.size, 2, none⟩ = some (.int .i64 x.bytes) := HR5.out.x.cell 2))
          all_goals
            rw [HE.out] at HR5
            have y1 : w5.cell? ⟨wr.heap.size, 1, none⟩ = some (.int .u64 x.num) := HR5.out.x.cell 1
            rw [HE.out, wid_cast]
            have hd8 := wid_le x.bytes
            clear HE
            generalize wid x.bytes = d at *
            by_cases h8 : d = 8
            · subst h8
              rw [show x.num % 256 ^ 8 = x.num from Nat.mod_eq_of_lt (by omega)]
              go_wp2_with fail
              go_quiet (fail)
              go_wp2_with fail
              exact ⟨⟨k + 1, by omega, by go_num, Lib.hid (by rw [HW.out]; exact (HR5.out.drewN _).bi)⟩, by simp [intOf]; omega⟩
            · have e2 : ∀ N : Int, (x.num : Int).tmod N = (x.num : Int) % N := fun N => Int.tmod_eq_emod_of_nonneg (by omega)
              have hd : d = 0 ∨ d = 1 ∨ d = 2 ∨ d = 3 ∨ d = 4 ∨ d = 5 ∨ d = 6 ∨ d = 7 := by omega
              clear h8 hd8
              rcases hd with rfl | rfl | rfl | rfl | rfl | rfl | rfl | rfl
              all_goals
                go_wp2_with fail
                go_quiet (fail)
                go_wp2_with fail
                exact ⟨⟨k + 1, by omega, by go_num, Lib.hid (by rw [HW.out]; exact (HR5.out.drewN _).bi)⟩, by simp [intOf]; omega⟩
        · have h0' : (x.kind.toNat == 0) = false := by
            have : x.kind.toNat ≠ 0 := fun h => h0 (UInt8.toNat_inj.1 h)
            simpa using this
          by_cases h1 : x.kind = 1
          · have h1' : x.kind.toNat = 1 := by rw [h1]; rfl
            rw [(item_case x).2.1 h0 h1] at hB hle
            rw [h1'] at c0
            have HR := Lib.hid (hB.out.item #[.int .u8 1, .int .u64 x.num, .int .i64 x.bytes, .string x.text])
            clear h0 h1 h1' h0' hB
            have HE := Lib.hid (txt_back x.text.data.toList m 100 (by simp; omega) (by simp; omega))
            generalize txt x.text.data.toList ++ m = q at *
            have HC := Lib.hid (show ∀ W, At w4.heap.size (q, 0) W → Calls Try.prog 40 #[.pointer (some ⟨w4.heap.size, 0, none⟩), .int .i64 100] W fun e w' => e = .returned (.string x.text) ∧ At w4.heap.size (m, 0) w' ∧ Only w4.heap.size W w' from fun W h => by
              have := Text_calls w4.heap.size (q, 0) 100 (by unfold maxLen; simp only; omega) W h
              rw [HE.out] at this
              simp only [bs_self] at this
              exact this)
            go_wp2_with fail
            have HX := Lib.hid HR.out.drew
            go_region_held3 (fun w' => w'.cell? ⟨wr.heap.size, 3, none⟩ = some (.string x.text)) (first | exact HX.out.x.cell 3 | exact y2 | go_keep) (first | (go_at_call 40; refine (HC.out _ HX.out.i).mono ?_; rintro e w5 ⟨rfl, h3, h4⟩; have HR5 := Lib.hid (HX.out.turn h3 h4); clear h3 h4; have y2 : w5.cell? ⟨wr.heap.size, 3, none⟩ = some (.string x.text) := HR5.out.x.cell 3))
            all_goals
              go_wp2_with fail
              exact ⟨⟨k + 1, by omega, by go_num, Lib.hid (by rw [HW.out]; exact HR5.out.bi)⟩, by simp [intOf]; omega⟩
          · have h1' : (x.kind.toNat == 1) = false := by
              have : x.kind.toNat ≠ 1 := fun h => h1 (UInt8.toNat_inj.1 h)
              simpa using this
            rw [(item_case x).2.2 h0 h1] at hB hle
            clear h0 h1
            generalize x.kind.toNat = kd at *
            have h0'' : ¬ ((kd : Int) = 0) := by simp at h0'; omega
            have h1'' : ¬ ((kd : Int) = 1) := by simp at h1'; omega
            have HR := Lib.hid (hB.out.item #[.int .u8 kd, .int .u64 x.num, .int .i64 x.bytes, .string x.text])
            clear hB
            have HE := Lib.hid (raw_all x.text.data.toList m)
            rw [show x.text.data.toList.length = x.text.size by simp] at HE
            generalize x.text.data.toList ++ m = q at *
            have HC := Lib.hid (show ∀ W, At w4.heap.size (q, 0) W → Calls Try.prog 42 #[.pointer (some ⟨w4.heap.size, 0, none⟩), .int .i64 (x.text.size : Int)] W fun e w' => e = .returned (.string x.text) ∧ At w4.heap.size (m, 0) w' ∧ Only w4.heap.size W w' from fun W h => by
              have := Raw_calls w4.heap.size (q, 0) (x.text.size : Int) (by unfold maxLen; simp only; omega) W h
              rw [HE.out] at this
              simp only [bs_self] at this
              exact this)
            go_wp2_with fail
            have HX := Lib.hid HR.out.drew
            go_region_held3 (fun w' => w'.cell? ⟨wr.heap.size, 3, none⟩ = some (.string x.text)) (first | exact HX.out.x.cell 3 | exact y2 | go_keep) (first | (go_at_call 42; refine (HC.out _ HX.out.i).mono ?_; rintro e w5 ⟨rfl, h3, h4⟩; have HR5 := Lib.hid (HX.out.turn h3 h4); clear h3 h4; have y2 : w5.cell? ⟨wr.heap.size, 3, none⟩ = some (.string x.text) := HR5.out.x.cell 3))
            all_goals
              go_wp2_with fail
              exact ⟨⟨k + 1, by omega, by go_num, Lib.hid (by rw [HW.out]; exact HR5.out.bi)⟩, by simp [intOf]; omega⟩
      · obtain rfl : k = l.length := by omega
        rw [List.drop_length] at hB
        have HI := hB.out.i
        have HX := Lib.hid HI
        clear HI
        have HE := Lib.hid (show ∀ W, At w4.heap.size (items [], 0) W → Calls Try.prog 47 #[.pointer (some ⟨w4.heap.size, 0, none⟩)] W fun e w' => e = .returned (.int .i64 0) ∧ W = w' from fun W h => End_calls _ (items [], 0) W h)
        have HL0 := Lib.hid (show ∀ W, At w4.heap.size (items [], 0) W → Calls Try.prog 44 #[.pointer (some ⟨w4.heap.size, 0, none⟩)] W fun e w' => e = .returned (.int .i64 0) ∧ W = w' from fun W h => Left_calls _ (items [], 0) W h)
        go_wp2_with fail
        refine (HE.out _ HX.out).mono ?_
        rintro e w6 ⟨rfl, rfl⟩
        go_wp2_with fail
        refine (HL0.out _ HX.out).mono ?_
        rintro e w6 ⟨rfl, rfl⟩
        go_wp2_with fail
        go_ret
        exact ⟨by simp, bthen HB4.out hB.out.bel⟩
end Go.Proofs.Ytopacbmdoognjaa.Oct
