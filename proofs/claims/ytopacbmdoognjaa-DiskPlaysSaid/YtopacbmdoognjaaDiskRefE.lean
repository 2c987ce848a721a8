/- The walks of the document's disk: Put. -/
import Derived.Test.YtopacbmdoognjaaDiskRefD
import Derived.Laws.AppendOwnNone
namespace Go.Proofs.Ytopacbmdoognjaa.Disk
open Go Go.RowKit Frame
set_option maxRecDepth 100000 in
set_option maxHeartbeats 2000000 in
theorem rPut_no (s : DSt) (v : Value) (k : Int) (t : ByteArray) (ha : ans s k t ≠ 0) (hl : s.last.length ≤ 262144) (w : World) (hr : RW v s.wait w) :
    Calls Try.prog 83 #[RD s v, .int .i64 k, .string t] w (RPost2 s (ans s k t) w) := by
  obtain ⟨A, cap, rfl, -⟩ := hr.row
  have HC := Lib.hid (fun W => Check_calls s (.slice A s.wait.length cap) k hl W)
  have HB := Lib.hid (below2 w (.cells (RCells s (.slice A s.wait.length cap)) 63) (.cells zeroR 63))
  have HN := Lib.hid (zero_has w (RCells s (.slice A s.wait.length cap)))
  have HN1 := Lib.hid (first_has w (RCells s (.slice A s.wait.length cap)) (.cells zeroR 63))
  have HR2 := Lib.hid (hr.below HB.out)
  have hans : ans s k t = if chk s k ≠ 0 then chk s k else if 64 < t.size then 5 else 0 := rfl
  clear hr
  unfold RD at HC ⊢
  unfold RCells zeroR at HB HN HN1 HR2
  generalize chk s k = c at *
  by_cases hc : c = 0
  · subst hc
    have ht : 64 < t.size := by
      rcases Nat.lt_or_ge 64 t.size with h | h
      · exact h
      · rw [if_neg (by simp), if_neg (by omega)] at hans
        exact absurd hans ha
    have HE := Lib.hid (show ans s k t = 5 by rw [hans, if_neg (by simp), if_pos ht])
    clear hans ha
    go_enter Try.func83, Try.ntmps83
    go_wp2_with fail
    refine (HC.out _).mono ?_
    rintro e w2 ⟨rfl, b2⟩
    have h3 := HN1.out.below b2; have k0 := h3.cell 0; have k1 := h3.cell 1; have k2 := h3.cell 2; have k3 := h3.cell 3; have k4 := h3.cell 4; have k5 := h3.cell 5
    have h4 := HN.out.below b2; have z0 := h4.cell 0; have z1 := h4.cell 1; have z2 := h4.cell 2; have z3 := h4.cell 3; have z4 := h4.cell 4; have z5 := h4.cell 5; have f4 := h4.frozen; have hz4 := h4.lt
    have R2 := Lib.hid (HR2.out.below b2)
    have hne := Lib.hid (R2.out.apart h4 (by decide))
    have B2 := Lib.hid (bthen HB.out b2)
    clear h3 h4 b2
    go_wp2_with fail
    refine bodyPost_ret (v := .tuple #[RD s (.slice A s.wait.length cap), .int .i64 5]) (by simp [results, Try.results83, go_sem, RD, z0, z1, z2, z3, z4, z5]) rfl ?_
    rw [HE.out]
    exact ⟨_, rfl, R2.out.set6 hne.out _ _ _ _ _ _, below6 B2.out (Nat.le_succ _) _ _ _ _ _ _⟩
  · have HE := Lib.hid (show ans s k t = c by rw [hans, if_pos hc])
    have hc' : (c != 0) = true := by simpa using hc
    have hc2 : (c == 0) = false := by simpa using hc
    clear hans ha hc
    go_enter Try.func83, Try.ntmps83
    go_wp2_with fail
    refine (HC.out _).mono ?_
    rintro e w2 ⟨rfl, b2⟩
    have h3 := HN1.out.below b2; have k0 := h3.cell 0; have k1 := h3.cell 1; have k2 := h3.cell 2; have k3 := h3.cell 3; have k4 := h3.cell 4; have k5 := h3.cell 5
    have h4 := HN.out.below b2; have z0 := h4.cell 0; have z1 := h4.cell 1; have z2 := h4.cell 2; have z3 := h4.cell 3; have z4 := h4.cell 4; have z5 := h4.cell 5; have f4 := h4.frozen; have hz4 := h4.lt
    have R2 := Lib.hid (HR2.out.below b2)
    have hne := Lib.hid (R2.out.apart h4 (by decide))
    have B2 := Lib.hid (bthen HB.out b2)
    clear h3 h4 b2
    go_wp2_with fail
    refine bodyPost_ret (v := .tuple #[RD s (.slice A s.wait.length cap), .int .i64 c]) (by simp [results, Try.results83, go_sem, RD, z0, z1, z2, z3, z4, z5]) rfl ?_
    rw [HE.out]
    exact ⟨_, rfl, R2.out.set6 hne.out _ _ _ _ _ _, below6 B2.out (Nat.le_succ _) _ _ _ _ _ _⟩
theorem has_grown {b : Nat} {cs : Array Value} {t : TypeId} {w w' : World} {row : Option Nat} (h : Has b cs t w) (hg : w.grownBy w' row) (hne : some b ≠ row) : Has b cs t w' := (hg.block b h.lt hne).trans h
theorem below_grown {B : Nat} {a w w' : World} {row : Option Nat} (h : Below B a w) (hg : w.grownBy w' row) (hB : B ≤ w.heap.size) (hr : ∀ g, row = some g → B ≤ g) : Below B a w' :=
  ⟨hg.os.trans h.os, hg.tape.trans h.tape, hg.output.trans h.output, Nat.le_trans h.size hg.size, fun i hi => (hg.block i (by omega) (fun e => by have := hr i e.symm; omega)).trans (h.block i hi)⟩
theorem RW.of_own {base g cap m : Nat} {ws : List Wr} {xs : List Value} {w : World} (h : w.ownsRow base 127 2 (.slice (some ⟨g, 0, none⟩) m cap) m xs) (hm : m = ws.length) (hx : xs = rows ws) (h0 : 0 < ws.length) : RW (.slice (some ⟨g, 0, none⟩) m cap) ws w := by
  subst hm
  subst hx
  refine ⟨⟨h.1, ?_⟩, fun h' => by omega⟩
  rcases h.2 with ⟨e, _⟩ | ⟨g', cap', cur, e, _, hr⟩
  · cases e
  · exact .inr ⟨g', cap', cur, e, Nat.zero_le _, hr⟩
theorem RW.set1 {v : Value} {ws : List Wr} {w : World} {b i : Nat} (h : RW v ws w) (hb : v.ownBlock ≠ some b) (x : Value) : RW v ws (w.setCell ⟨b, i, none⟩ x) :=
  ⟨ownsRow_setCell_other h.1 (a := ⟨b, i, none⟩) hb x, h.2⟩
theorem rows_one (ws : List Wr) : ∀ u ∈ rows ws, u.oneCell' = true := by
  intro u hu
  simp only [rows, List.mem_flatMap] at hu
  obtain ⟨x, _, hx⟩ := hu
  simp at hx
  rcases hx with rfl | rfl <;> rfl
set_option maxRecDepth 100000 in
set_option maxHeartbeats 2000000 in
theorem rPut_yes (s : DSt) (v : Value) (q : Nat) (t : ByteArray) (hc : chk s q = 0) (ht : t.size ≤ 64) (hl : s.last.length ≤ 262144) (hn : s.wait.length ≤ 100000) (w : World) (hr : RW v s.wait w) :
    Calls Try.prog 83 #[RD s v, .int .i64 (q : Int), .string t] w (RPost2 { s with wait := s.wait ++ [(q, t)] } 0 w) := by
  obtain ⟨i0, hi0, hz0, hz1, hz2⟩ := info_parts infoRW
  obtain ⟨last, ws, on, ar, sy, ct⟩ := s
  simp only at hr hl hn ⊢
  obtain ⟨A, cap, rfl, hrow⟩ := hr.row
  have HC := Lib.hid (fun W => Check_calls ⟨last, ws, on, ar, sy, ct⟩ (.slice A ws.length cap) q hl W)
  rw [hc] at HC
  have HB := Lib.hid (below2 w (.cells (RCells ⟨last, ws, on, ar, sy, ct⟩ (.slice A ws.length cap)) 63) (.cells zeroR 63))
  have HN := Lib.hid (zero_has w (RCells ⟨last, ws, on, ar, sy, ct⟩ (.slice A ws.length cap)))
  have HN1 := Lib.hid (first_has w (RCells ⟨last, ws, on, ar, sy, ct⟩ (.slice A ws.length cap)) (.cells zeroR 63))
  have HR2 := Lib.hid (hr.below HB.out)
  have HROW := Lib.hid hrow
  clear hr hc hrow
  unfold RD at HC ⊢
  unfold RCells zeroR at HB HN HN1 HR2
  simp only at HC HB HN HN1 HR2 ⊢
  by_cases hw : ws = []
  · subst hw
    have hv := HR2.out.2 rfl
    simp only [List.length_nil, Value.slice.injEq] at hv
    obtain ⟨rfl, -, rfl⟩ := hv
    simp only [List.length_nil] at HC HB HN HN1 HR2 ⊢
    go_enter Try.func83, Try.ntmps83
    go_wp2_with fail
    refine (HC.out _).mono ?_
    rintro e w2 ⟨rfl, b2⟩
    have R2 := Lib.hid (HR2.out.below b2)
    have K2 := Lib.hid (HN1.out.below b2)
    have Z2 := Lib.hid (HN.out.below b2)
    have B2 := Lib.hid (bthen HB.out b2)
    have k0 := K2.out.cell 0; have k1 := K2.out.cell 1; have k2 := K2.out.cell 2; have k3 := K2.out.cell 3; have k4 := K2.out.cell 4; have k5 := K2.out.cell 5
    have hs2 := Z2.out.lt
    clear b2
    go_wp2_with (first
      | (at_builtin; refine wpList_append_own_none rfl _ _ _ rfl 0 127 i0 2 Try.underlying61 hi0 (.slice none 0 0) 0 [] rfl (World.ownsRow_nil _ _ _ _) rfl ?_)
      | (at_builtin; refine wpList_append_lies _ rfl _ _ _ rfl w2.heap.size 127 i0 _ 2 24 Try.underlying61 hi0 hz0 hz1 hz2 rfl (by omega) (.slice none 0 0) 0 [] rfl (World.ownsRow_nil _ _ _ _) ⟨w2.heap.size, 0, none⟩ 1 1 [.int .i64 (q : Int), .string t] rfl rfl (World.news_of_block (cs := #[.int .i64 (q : Int), .string t]) (t := 127) (fr := (0, 0)) (heap_alloc_new w2 _)) (by simp [Value.oneCell']) (by omega) (by unfold maxLen; omega) (by omega) (by simp) (w2.heap.size + 1) (by simp) ?_; intro g4 cap4 w4 hown4 hgrow4 hat4 hlt4;
         have K4 := Lib.hid (has_grown (K2.out.alloc _) hgrow4 (by simp [Value.ownBlock]));
         have Z4 := Lib.hid (has_grown (Z2.out.alloc _) hgrow4 (by simp [Value.ownBlock]));
         have B4 := Lib.hid (below_grown (B2.out.alloc (by omega) _) hgrow4 (by simp; omega) (by simp [Value.ownBlock]));
         clear k0 k1 k2 k3 k4 k5;
         have k0 := K4.out.cell 0; have k1 := K4.out.cell 1; have k2 := K4.out.cell 2; have k3 := K4.out.cell 3; have k4 := K4.out.cell 4; have k5 := K4.out.cell 5;
         have z0 := Z4.out.cell 0; have z1 := Z4.out.cell 1; have z2 := Z4.out.cell 2; have z3 := Z4.out.cell 3; have z4 := Z4.out.cell 4; have z5 := Z4.out.cell 5;
         have f4 := K4.out.frozen; have y4 := Z4.out.frozen;
         have HO4 := Lib.hid hown4; clear hown4 hgrow4 hat4))
    have hrow4 := RW.of_own (ws := [] ++ [(q, t)]) HO4.out (by simp) (by rw [rows_snoc]; rfl) (by simp)
    have hne1 := hrow4.apart K4.out (by decide)
    have hne2 := hrow4.apart Z4.out (by decide)
    have HF := Lib.hid (And.intro hrow4 (And.intro hne1 hne2))
    clear hrow4 hne1 hne2
    refine bodyPost_ret (v := .tuple #[RD ⟨last, [] ++ [(q, t)], on, ar, sy, ct⟩ (.slice (some ⟨g4, 0, none⟩) (0 + 1) cap4), .int .i64 0]) (by simp [results, Try.results83, go_sem, RD, z0, z1, z2, z3, z4, z5]) rfl ?_
    exact ⟨_, rfl, (HF.out.1.set1 HF.out.2.1 _).set6 HF.out.2.2 _ _ _ _ _ _, below6 (B4.out.setCell (p := ⟨w.heap.size, 1, none⟩) (Nat.le_refl _) _) (Nat.le_succ _) _ _ _ _ _ _⟩
  · have hw0 : 0 < ws.length := (by cases ws with | nil => exact absurd rfl hw | cons _ _ => simp)
    clear hw
    obtain ⟨g, rfl, hg, -⟩ := HROW.out hw0
    go_enter Try.func83, Try.ntmps83
    go_wp2_with fail
    refine (HC.out _).mono ?_
    rintro e w2 ⟨rfl, b2⟩
    have R2 := Lib.hid (HR2.out.below b2)
    have K2 := Lib.hid (HN1.out.below b2)
    have Z2 := Lib.hid (HN.out.below b2)
    have B2 := Lib.hid (bthen HB.out b2)
    have k0 := K2.out.cell 0; have k1 := K2.out.cell 1; have k2 := K2.out.cell 2; have k3 := K2.out.cell 3; have k4 := K2.out.cell 4; have k5 := K2.out.cell 5
    have hs2 := Z2.out.lt
    clear b2
    go_wp2_with (first
      | (at_builtin; refine wpList_append_lies _ rfl _ _ _ rfl w2.heap.size 127 i0 _ 2 24 Try.underlying61 hi0 hz0 hz1 hz2 rfl (by omega) (.slice none 0 0) 0 [] rfl (World.ownsRow_nil _ _ _ _) ⟨g, 0, none⟩ ws.length cap (rows ws) rfl R2.out.1.1 (R2.out.1.cells rfl) (rows_one ws) (by omega) (by unfold maxLen; omega) (by omega) (by omega) w2.heap.size (by rfl) ?_; intro g1 cap1 w3 hown1 hgrow1 hat1 hlt1;
         obtain rfl : g1 = w2.heap.size := hat1.resolve_left (by simp [Value.ownBlock]);
         have K3 := Lib.hid (has_grown K2.out hgrow1 (by simp [Value.ownBlock]));
         have Z3 := Lib.hid (has_grown Z2.out hgrow1 (by simp [Value.ownBlock]));
         have B3 := Lib.hid (below_grown B2.out hgrow1 (by omega) (by simp [Value.ownBlock]));
         have S3 := hgrow1.size;
         clear hgrow1 hat1 k0 k1 k2 k3 k4 k5;
         simp only [Nat.zero_add, List.nil_append] at hown1 ⊢;
         have HO1 := Lib.hid hown1; clear hown1)
      | (at_builtin; refine wpList_append_lies _ rfl _ _ _ rfl w2.heap.size 127 i0 _ 2 24 Try.underlying61 hi0 hz0 hz1 hz2 rfl (by omega) (.slice (some ⟨w2.heap.size, 0, none⟩) ws.length cap1) ws.length (rows ws) rfl (HO1.out.alloc _) ⟨w3.heap.size, 0, none⟩ 1 1 [.int .i64 (q : Int), .string t] rfl rfl (World.news_of_block (cs := #[.int .i64 (q : Int), .string t]) (t := 127) (fr := (0, 0)) (heap_alloc_new w3 _)) (by simp [Value.oneCell']) (by omega) (by unfold maxLen; omega) (by omega) (by simp; omega) (w3.heap.size + 1) (by simp) ?_; intro g4 cap4 w4 hown4 hgrow4 hat4 hlt4;
         have K4 := Lib.hid (has_grown (K3.out.alloc _) hgrow4 (by simp [Value.ownBlock]; omega));
         have Z4 := Lib.hid (has_grown (Z3.out.alloc _) hgrow4 (by simp [Value.ownBlock]; omega));
         have B4 := Lib.hid (below_grown (B3.out.alloc (by omega) _) hgrow4 (by simp; omega) (by simp [Value.ownBlock]; omega));
         have k0 := K4.out.cell 0; have k1 := K4.out.cell 1; have k2 := K4.out.cell 2; have k3 := K4.out.cell 3; have k4 := K4.out.cell 4; have k5 := K4.out.cell 5;
         have z0 := Z4.out.cell 0; have z1 := Z4.out.cell 1; have z2 := Z4.out.cell 2; have z3 := Z4.out.cell 3; have z4 := Z4.out.cell 4; have z5 := Z4.out.cell 5;
         have f4 := K4.out.frozen; have y4 := Z4.out.frozen;
         have HO4 := Lib.hid hown4; clear hown4 hgrow4 hat4))
    have hrow4 := RW.of_own (ws := ws ++ [(q, t)]) HO4.out (by simp) (by rw [rows_snoc]) (by simp)
    have hne1 := hrow4.apart K4.out (by decide)
    have hne2 := hrow4.apart Z4.out (by decide)
    have HF := Lib.hid (And.intro hrow4 (And.intro hne1 hne2))
    clear hrow4 hne1 hne2
    refine bodyPost_ret (v := .tuple #[RD ⟨last, ws ++ [(q, t)], on, ar, sy, ct⟩ (.slice (some ⟨g4, 0, none⟩) (ws.length + 1) cap4), .int .i64 0]) (by simp [results, Try.results83, go_sem, RD, z0, z1, z2, z3, z4, z5]) rfl ?_
    exact ⟨_, rfl, (HF.out.1.set1 HF.out.2.1 _).set6 HF.out.2.2 _ _ _ _ _ _, below6 (B4.out.setCell (p := ⟨w.heap.size, 1, none⟩) (Nat.le_refl _) _) (Nat.le_succ _) _ _ _ _ _ _⟩
theorem rPut_calls (n : Nat) (s : DSt) (v : Value) (k : Int) (t : ByteArray) (hs : Good n s) (w : World) (hr : RW v s.wait w) :
    Calls Try.prog 83 #[RD s v, .int .i64 k, .string t] w (RPost2 (wrote s k t) (ans s k t) w) := by
  have hl : s.last.length ≤ 262144 := by have := hs.len; have := hs.hn; omega
  by_cases h : ans s k t = 0
  · obtain ⟨h1, h2⟩ := ans_zero h
    obtain ⟨_, h3, _⟩ := chk_zero h1
    have e : wrote s k t = { s with wait := s.wait ++ [(k.toNat, t)] } := by unfold wrote; rw [if_pos h]
    rw [e, h]
    obtain ⟨q, rfl⟩ := Int.eq_ofNat_of_zero_le h3
    exact rPut_yes s v q t h1 h2 hl hs.many w hr
  · rw [wrote_no s k t h]
    exact rPut_no s v k t h hl w hr
end Go.Proofs.Ytopacbmdoognjaa.Disk
