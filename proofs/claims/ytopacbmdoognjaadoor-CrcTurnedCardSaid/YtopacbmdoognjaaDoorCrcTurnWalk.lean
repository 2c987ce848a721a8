/- The walk of CrcTurned. -/
import Derived.Test.YtopacbmdoognjaaDoorCrcTurn
namespace Go.Proofs.YtopacbmdoognjaaDoor.Crc
open Go Go.RowKit
theorem Below.after_alloc {w w1 : World} {o : Obj} (hb : Below (w.alloc o).heap.size (w.alloc o) w1) : Below w.heap.size w w1 :=
  ((Below.refl _ _).alloc (Nat.le_refl _) o).trans (hb.mono (by simp))
theorem Sum_one (b c : Nat) (s : ByteArray) (hs : s.size ≤ maxLen) (w : World) (hT : Tab w) (h0 : w.cell? ⟨b, 0, none⟩ = some (.string s)) :
    Calls Tryd.prog 23 #[.slice (some ⟨b, 0, none⟩) 1 c] w fun e w' => e = .returned (.int .u32 ((sum s.data.toList : Nat) : Int)) ∧ w = w' := by
  have h := Sum_calls (some ⟨b, 0, none⟩) c [s] (show 1 ≤ maxLen by decide) (by simpa using hs) w hT (fun _ => ⟨b, 0, rfl, fun i hi => by
    match i, hi with
    | 0, _ => simpa using h0⟩)
  simpa [cat] using h
theorem eqArr (n : Nat) (H : ∀ (x y : Int) (w : World), (Op.equalIn n 5 (.int .u8 x) (.int .u8 y)).run Tryd.prog w = .ok (x == y) w) (a b c d a' b' c' d' : Int) (w : World) :
    (Op.equalIn (n + 1) 31 (.agg #[.int .u8 a, .int .u8 b, .int .u8 c, .int .u8 d]) (.agg #[.int .u8 a', .int .u8 b', .int .u8 c', .int .u8 d'])).run Tryd.prog w = .ok (a == a' && b == b' && c == c' && d == d') w := by
  have hp : ∀ (xs : Array Value) (i : Nat) (x : Int) (w : World), xs[i]? = some (.int .u8 x) → (part 5 xs i).run Tryd.prog w = .ok (.int .u8 x) w := by
    intro xs i x w h
    simp [part]
    rw [h]; rfl
  have hs : ∀ w, (sizeOf 5).run Tryd.prog w = .ok 1 w := fun _ => by kernel_rfl
  simp [Op.equalIn, run_underlying Tryd.underlying31, hs, List.range'_succ, List.range'_zero, hp, H]
  by_cases h0 : a = a' <;> by_cases h1 : b = b' <;> by_cases h2 : c = c' <;> by_cases h3 : d = d' <;> simp [h0, h1, h2, h3]
theorem run_eql_arr4 (a b c d a' b' c' d' : Int) (w : World) : (binOp .eql 31 (.agg #[.int .u8 a, .int .u8 b, .int .u8 c, .int .u8 d]) (.agg #[.int .u8 a', .int .u8 b', .int .u8 c', .int .u8 d'])).run Tryd.prog w = .ok (.bool (a == a' && b == b' && c == c' && d == d')) w := by
  simp only [binOp]
  simp [Op.equal, Op.maxDepth, eqArr 9999 (fun x y w => run_equalIn_int w 9998 5 .u8 .u8 x y Tryd.underlying5) a b c d a' b' c' d' w]
def turnBox (t0 t1 t2 t3 : UInt8) : Obj := .cells #[.int .u8 t0.toNat, .int .u8 t1.toNat, .int .u8 t2.toNat, .int .u8 t3.toNat] 31

set_option maxRecDepth 100000 in
set_option maxHeartbeats 1000000 in
theorem CrcTurned_out (s : ByteArray) (at_ : Nat) (t0 t1 t2 t3 : UInt8) (hs : s.size ≤ maxLen) (h : s.size < 4 ∨ 2000 < s.size ∨ (t0 = 0 ∧ t1 = 0 ∧ t2 = 0 ∧ t3 = 0)) (w : World) (hT : Tab w) :
    Calls Tryd.prog 6 #[.string s, .int .u16 (at_ : Int), .agg #[.int .u8 t0.toNat, .int .u8 t1.toNat, .int .u8 t2.toNat, .int .u8 t3.toNat]] w fun e w' => e = .returned (.bool true) ∧ Below w.heap.size w w' := by
  have hbA : Below w.heap.size w (w.alloc (turnBox t0 t1 t2 t3)) := (Below.refl _ _).alloc (Nat.le_refl _) _
  have HT0 := Lib.hid (hT.below hbA)
  clear hbA hT
  unfold turnBox at HT0
  unfold maxLen at hs
  by_cases h4 : s.size < 4
  · have h4' : ¬ (2000 < s.size) := by omega
    clear h
    go_enter Tryd.func6, Tryd.ntmps6
    go_wp2_with fail
    refine (awake_calls _ HT0.out).mono ?_
    rintro e w1 ⟨rfl, hb1⟩
    go_wp2_with fail
    go_ret
    exact ⟨rfl, Below.after_alloc hb1⟩
  by_cases h5 : 2000 < s.size
  · clear h
    go_enter Tryd.func6, Tryd.ntmps6
    go_wp2_with fail
    refine (awake_calls _ HT0.out).mono ?_
    rintro e w1 ⟨rfl, hb1⟩
    go_wp2_with fail
    go_ret
    exact ⟨rfl, Below.after_alloc hb1⟩
  obtain ⟨rfl, rfl, rfl, rfl⟩ : t0 = 0 ∧ t1 = 0 ∧ t2 = 0 ∧ t3 = 0 := by
    rcases h with h | h | h
    · exact absurd h h4
    · exact absurd h h5
    · exact h
  clear h
  go_enter Tryd.func6, Tryd.ntmps6
  go_wp2_with fail
  refine (awake_calls _ HT0.out).mono ?_
  rintro e w1 ⟨rfl, hb1⟩
  obtain ⟨hc, hf⟩ := bcell hb1
  have c0 := hc w.heap.size 0 (by simp)
  have c1 := hc w.heap.size 1 (by simp)
  have c2 := hc w.heap.size 2 (by simp)
  have c3 := hc w.heap.size 3 (by simp)
  simp [go_sem] at c0 c1 c2 c3
  clear hc hf
  have heq := run_eql_arr4 0 0 0 0 0 0 0 0
  go_wp2_with fail
  go_ret
  exact ⟨rfl, Below.after_alloc hb1⟩

/-- The bytes when the first m of the four are turned. -/
def tl (l : List UInt8) (t : Nat → UInt8) (k m : Nat) : List UInt8 := l.mapIdx fun i b => if k ≤ i ∧ i < k + m then b ^^^ t (i - k) else b
def t4 (t0 t1 t2 t3 : UInt8) : Nat → UInt8
  | 0 => t0
  | 1 => t1
  | 2 => t2
  | _ => t3

/-- What holds at the head of each round: m of the four bytes are turned. -/
structure TInv (w w1 : World) (l : List UInt8) (t : Nat → UInt8) (k m : Nat) (wr : World) : Prop where
  bel : Below w.heap.size w wr
  tab : Tab wr
  box : ∀ i, i < 4 → wr.cell? ⟨w.heap.size, i, none⟩ = some (.int .u8 (t i).toNat)
  lt : w.heap.size < w1.heap.size
  gl : 0 < w1.heap.size
  cell : ∀ j, j < l.length → wr.cell? ⟨w1.heap.size, j, none⟩ = some (.int .u8 ((tl l t k m).getD j 0).toNat)
  free : ∀ j, j < l.length → wr.frozen? ⟨w1.heap.size, j, none⟩ = false

theorem tl_length (l : List UInt8) (t : Nat → UInt8) (k m : Nat) : (tl l t k m).length = l.length := by simp [tl]
theorem tl_get (l : List UInt8) (t : Nat → UInt8) (k m j : Nat) (hj : j < l.length) : (tl l t k m).getD j 0 = if k ≤ j ∧ j < k + m then l.getD j 0 ^^^ t (j - k) else l.getD j 0 := by
  simp only [tl, List.getD_eq_getElem?_getD, List.getElem?_mapIdx, List.getElem?_eq_getElem hj, Option.map_some, Option.getD_some]
theorem tl_zero (l : List UInt8) (t : Nat → UInt8) (k : Nat) : tl l t k 0 = l := by
  apply List.ext_getElem?
  intro i
  simp only [tl, List.getElem?_mapIdx]
  rcases h : l[i]? with _ | b
  · rfl
  · rw [Option.map_some, if_neg (by omega)]
theorem tl_four (p q : List UInt8) (b0 b1 b2 b3 : UInt8) (t : Nat → UInt8) : tl (p ++ [b0, b1, b2, b3] ++ q) t p.length 4 = p ++ [b0 ^^^ t 0, b1 ^^^ t 1, b2 ^^^ t 2, b3 ^^^ t 3] ++ q := by
  unfold tl
  rw [List.mapIdx_append, List.mapIdx_append]
  have e1 : p.mapIdx (fun i b => if p.length ≤ i ∧ i < p.length + 4 then b ^^^ t (i - p.length) else b) = p := by
    apply List.ext_getElem?
    intro i
    rw [List.getElem?_mapIdx]
    rcases h : p[i]? with _ | b
    · rfl
    · have := (List.getElem?_eq_some_iff.1 h).1
      rw [Option.map_some, if_neg (by omega)]
  have e2 : q.mapIdx (fun i b => if p.length ≤ i + (p ++ [b0, b1, b2, b3]).length ∧ i + (p ++ [b0, b1, b2, b3]).length < p.length + 4 then b ^^^ t (i + (p ++ [b0, b1, b2, b3]).length - p.length) else b) = q := by
    apply List.ext_getElem?
    intro i
    rw [List.getElem?_mapIdx]
    rcases h : q[i]? with _ | b
    · rfl
    · rw [Option.map_some, if_neg (by simp)]
  rw [e1, e2]
  simp
  refine ⟨fun h => ?_, fun h => ?_, fun h => ?_⟩ <;> omega
theorem cut4 (l : List UInt8) (k : Nat) (h : k + 3 < l.length) : ∃ b0 b1 b2 b3, l = l.take k ++ [b0, b1, b2, b3] ++ l.drop (k + 4) := by
  refine ⟨l[k], l[k + 1], l[k + 2], l[k + 3], ?_⟩
  conv => lhs; rw [← List.take_append_drop k l]
  rw [List.append_assoc]
  congr 1
  rw [List.drop_eq_getElem_cons (by omega), List.drop_eq_getElem_cons (by omega), List.drop_eq_getElem_cons (by omega), List.drop_eq_getElem_cons (by omega)]
  rfl
/-- The plain law, as the walk wants it. -/
theorem tl_sum (l : List UInt8) (k : Nat) (h : k + 3 < l.length) (t0 t1 t2 t3 : UInt8) (hne : ¬ (t0 = 0 ∧ t1 = 0 ∧ t2 = 0 ∧ t3 = 0)) : sum (tl l (t4 t0 t1 t2 t3) k 4) ≠ sum l := by
  intro he
  obtain ⟨b0, b1, b2, b3, hl⟩ := cut4 l k h
  have hk : (l.take k).length = k := by simp; omega
  have e := tl_four (l.take k) (l.drop (k + 4)) b0 b1 b2 b3 (t4 t0 t1 t2 t3)
  rw [← hl, hk] at e
  rw [e] at he
  conv at he => rhs; rw [hl]
  exact hne (sum_turned _ _ _ _ _ _ _ _ _ _ he)
theorem TInv.start {w w1 : World} {t0 t1 t2 t3 : UInt8} {s : ByteArray} {e : TypeId} {k : Nat} (hb1 : Below (w.alloc (turnBox t0 t1 t2 t3)).heap.size (w.alloc (turnBox t0 t1 t2 t3)) w1) (hT : Tab w1) :
    TInv w w1 s.data.toList (t4 t0 t1 t2 t3) k 0 (Lib.bytesWorld w1 e s) := by
  have hlt : w.heap.size < w1.heap.size := by have := hb1.size; simp at this; omega
  have hb2 : Below w1.heap.size w1 (Lib.bytesWorld w1 e s) := ⟨rfl, rfl, rfl, by rw [Lib.bytesWorld_size]; omega, fun j hj => Lib.bytesWorld_at_old w1 e s j hj⟩
  refine ⟨(Below.after_alloc hb1).trans (hb2.mono (by omega)), hT.below hb2, fun i hi => ?_, hlt, hT.size, fun j hj => ?_, fun j hj => ?_⟩
  · rw [hb2.cell (p := ⟨w.heap.size, i, none⟩) hlt, hb1.cell (p := ⟨w.heap.size, i, none⟩) (by simp)]
    match i, hi with
    | 0, _ => simp [go_sem, turnBox, t4]
    | 1, _ => simp [go_sem, turnBox, t4]
    | 2, _ => simp [go_sem, turnBox, t4]
    | 3, _ => simp [go_sem, turnBox, t4]
  · rw [tl_zero, Lib.bytesWorld_cell w1 e s j (by simpa using hj)]
  · have hc := Lib.bytesWorld_at_new w1 e s
    have hjs : j < s.size := by simpa using hj
    have hl : j < (Lib.bytesCells w1 e s).size := by
      simp [Lib.bytesCells]
      omega
    simp only [World.frozen?, hc]
    simp; omega
theorem cell_far (w : World) (p a : Addr) (v : Value) (h : p.block ≠ a.block) : (w.setCell p v).cell? a = w.cell? a :=
  World.cell?_of_block (Below.heap_setCell w p v a.block (fun e => h e.symm))
theorem TInv.step {w w1 wr : World} {l : List UInt8} {t : Nat → UInt8} {k m : Nat} (h : TInv w w1 l t k m wr) (hk : k + m < l.length) :
    TInv w w1 l t k (m + 1) (wr.setCell ⟨w1.heap.size, k + m, none⟩ (.int .u8 (((tl l t k m).getD (k + m) 0).toNat ^^^ (t m).toNat : Nat))).drew := by
  have hlt := h.lt
  have hgl := h.gl
  refine ⟨(h.bel.setCell (by simp; omega) _).drew, fun i hi => ?_, fun i hi => ?_, hlt, hgl, fun j hj => ?_, fun j hj => ?_⟩
  · rw [World.cell?_drew, cell_far _ _ _ _ (show ¬ w1.heap.size = 0 by omega)]
    exact h.tab i hi
  · rw [World.cell?_drew, cell_far _ _ _ _ (show ¬ w1.heap.size = w.heap.size by omega)]
    exact h.box i hi
  · rw [World.cell?_drew]
    by_cases he : j = k + m
    · subst he
      rw [World.cell?_setCell_same (h := h.cell _ hk), tl_get _ _ _ _ _ hk, tl_get _ _ _ _ _ hk, if_neg (by omega), if_pos (by omega), UInt8.toNat_xor, Nat.add_sub_cancel_left]
    · rw [World.cell?_setCell_other (h := by intro e; injection e with _ e2; exact he e2.symm), h.cell j hj, tl_get _ _ _ _ _ hj, tl_get _ _ _ _ _ hj]
      by_cases h1 : k ≤ j ∧ j < k + m
      · rw [if_pos h1, if_pos (by omega)]
      · rw [if_neg h1, if_neg (by omega)]
  · rw [World.frozen?_drew, World.frozen?_setCell]
    exact h.free j hj

set_option maxRecDepth 100000 in
set_option maxHeartbeats 1000000 in
theorem CrcTurned_in (s : ByteArray) (at_ : Nat) (t0 t1 t2 t3 : UInt8) (h1 : 4 ≤ s.size) (h2 : s.size ≤ 2000) (hne : ¬ (t0 = 0 ∧ t1 = 0 ∧ t2 = 0 ∧ t3 = 0)) (hat : at_ < 65536) (w : World) (hT : Tab w) :
    Calls Tryd.prog 6 #[.string s, .int .u16 (at_ : Int), .agg #[.int .u8 t0.toNat, .int .u8 t1.toNat, .int .u8 t2.toNat, .int .u8 t3.toNat]] w fun e w' => e = .returned (.bool true) ∧ Below w.heap.size w w' := by
  have hbA : Below w.heap.size w (w.alloc (turnBox t0 t1 t2 t3)) := (Below.refl _ _).alloc (Nat.le_refl _) _
  have HT0 := Lib.hid (hT.below hbA)
  clear hbA hT
  unfold turnBox at HT0
  have heq : ∀ W, (binOp .eql 31 (.agg #[.int .u8 t0.toNat, .int .u8 t1.toNat, .int .u8 t2.toNat, .int .u8 t3.toNat]) (.agg #[.int .u8 0, .int .u8 0, .int .u8 0, .int .u8 0])).run Tryd.prog W = .ok (.bool false) W := by
    intro W
    rw [run_eql_arr4]
    congr 2
    rw [Bool.eq_false_iff]
    intro h
    simp only [Bool.and_eq_true, beq_iff_eq] at h
    apply hne
    refine ⟨?_, ?_, ?_, ?_⟩ <;> apply UInt8.toNat_inj.1 <;> simp only [UInt8.toNat_zero] <;> omega
  have hcv := fun W => Lib.run_convert_string_bytes (P := Tryd.prog) W 9 32 5 s (u := .string) Tryd.underlying9 Tryd.underlying32 Tryd.underlying5
  have HNE := Lib.hid hne
  clear hne
  have HZ2 := Lib.hid (show s.size ≤ maxLen by simp [maxLen]; omega)
  have hd1 : decide ((s.size : Int) < 4) = false := by simp; omega
  have hd2 : decide (2000 < (s.size : Int)) = false := by simp; omega
  obtain ⟨k, hk, hk3⟩ : ∃ k : Nat, (at_ : Int) % ((s.size : Int) - 3) = (k : Int) ∧ k + 3 < s.size := ⟨at_ % (s.size - 3), by rw [show (s.size : Int) - 3 = ((s.size - 3 : Nat) : Int) by omega]; simp, by have := Nat.mod_lt at_ (show s.size - 3 > 0 by omega); omega⟩
  go_enter Tryd.func6, Tryd.ntmps6
  go_wp2_with fail
  refine (awake_calls _ HT0.out).mono ?_
  rintro e w1 ⟨rfl, hb1⟩
  have HT1 := Lib.hid (HT0.out.below hb1)
  obtain ⟨hc, hf⟩ := bcell hb1
  have c0 := hc w.heap.size 0 (by simp)
  have c1 := hc w.heap.size 1 (by simp)
  have c2 := hc w.heap.size 2 (by simp)
  have c3 := hc w.heap.size 3 (by simp)
  simp [go_sem] at c0 c1 c2 c3
  clear hc hf
  go_wp2_with fail
  simp only [hk]
  have hI : TInv w w1 s.data.toList (t4 t0 t1 t2 t3) k 0 (Lib.bytesWorld w1 5 s)   := TInv.start hb1 HT1.out
  have HI := Lib.hid hI
  clear hI hcv heq c0 c1 c2 c3 hk
  generalize Lib.bytesWorld w1 5 s = w2 at *
  go_loopw [33] (fun i wr => ∃ m : Nat, m ≤ 4 ∧ i = .int .i64 m ∧ Hid (TInv w w1 s.data.toList (t4 t0 t1 t2 t3) k m wr)) (fun i _ => (4 - intOf i).toNat)
  case atStart => exact ⟨0, by omega, rfl, HI⟩
  case round =>
    obtain ⟨m, hm, rfl, hI⟩ := hrel
    by_cases hlt : m < 4
    · have hb := hI.out.box m hlt
      have hc := hI.out.cell (k + m) (by simp; omega)
      have hf := hI.out.free (k + m) (by simp; omega)
      have hv : Go.bits .xor .u8 (((tl s.data.toList (t4 t0 t1 t2 t3) k m).getD (k + m) 0).toNat : Int) ((t4 t0 t1 t2 t3 m).toNat : Int) = (((tl s.data.toList (t4 t0 t1 t2 t3) k m).getD (k + m) 0 ^^^ t4 t0 t1 t2 t3 m).toNat : Int) := by
        rw [UInt8.toNat_xor]
        exact u8_xor_nat _ _ (by have := ((tl s.data.toList (t4 t0 t1 t2 t3) k m).getD (k + m) 0).toNat_lt; omega) (by have := (t4 t0 t1 t2 t3 m).toNat_lt; omega)
      generalize hx : (tl s.data.toList (t4 t0 t1 t2 t3) k m).getD (k + m) 0 = x at *
      generalize ht : t4 t0 t1 t2 t3 m = t at *
      have HX := Lib.hid (And.intro hx ht)
      clear hx ht
      go_wp2
      go_region
      go_wp2
      refine ⟨⟨m + 1, by omega, by go_num, ?_⟩, by simp [intOf]; omega⟩
      obtain ⟨rfl, rfl⟩ := HX.out
      exact TInv.step hI.out (by simp; omega)
    · obtain rfl : m = 4 := by omega
      have hlen : (tl s.data.toList (t4 t0 t1 t2 t3) k 4).length = s.size := by rw [tl_length]; simp
      have hcb := run_convert_bytes_arg (P := Tryd.prog) wr 32 5 Tryd.underlying32 Tryd.underlying5 w1.heap.size 0 s.size (grownCap w1 s.size 0 5) ((tl s.data.toList (t4 t0 t1 t2 t3) k 4).map fun b => (b.toNat : Int)) (by simpa using hlen)
        (fun i hi => by
          rw [Nat.zero_add, hI.out.cell i (by simpa using hi)]
          simp [List.getD_eq_getElem?_getD, hlen, hi]) 9 Tryd.underlying9
      have HL := Lib.hid (show (strOfNums ((tl s.data.toList (t4 t0 t1 t2 t3) k 4).map fun b => (b.toNat : Int))).data.toList = tl s.data.toList (t4 t0 t1 t2 t3) k 4 by
        rw [strOfNums_data, List.map_map]
        conv => rhs; rw [← List.map_id (tl s.data.toList (t4 t0 t1 t2 t3) k 4)]
        apply List.map_congr_left
        intro b _
        simp)
      have HZ := Lib.hid (show (strOfNums ((tl s.data.toList (t4 t0 t1 t2 t3) k 4).map fun b => (b.toNat : Int))).size ≤ maxLen by rw [strOfNums_size, List.length_map, hlen]; simp [maxLen]; omega)
      have HS := Lib.hid (tl_sum s.data.toList k (by simpa using hk3) t0 t1 t2 t3 HNE.out)
      have hT := hI.out.tab
      have HTr := Lib.hid hT
      have HB := Lib.hid hI.out.bel
      clear hT
      generalize strOfNums ((tl s.data.toList (t4 t0 t1 t2 t3) k 4).map fun b => (b.toNat : Int)) = u at *
      have hb2 : Below w.heap.size w (wr.alloc (.cells #[.string u] 9)) := HB.out.alloc HB.out.size _
      have HT2 := Lib.hid (HTr.out.below ((Below.refl _ _).alloc (Nat.le_refl _) (.cells #[.string u] 9)))
      have HT3 := Lib.hid (HT2.out.below ((Below.refl _ _).alloc (Nat.le_refl _) (.cells #[.string s] 9)))
      have HB3 := Lib.hid (hb2.alloc hb2.size (.cells #[.string s] 9))
      clear hb2
      go_wp2_with fail
      refine (Sum_one _ _ _ HZ.out _ HT2.out (by simp [go_sem])).mono ?_
      rintro e w' ⟨rfl, rfl⟩
      go_wp2_with fail
      refine (Sum_one _ _ _ HZ2.out _ HT3.out (by simp [go_sem])).mono ?_
      rintro e w' ⟨rfl, rfl⟩
      rw [HL.out]
      have hne2 : (((sum (tl s.data.toList (t4 t0 t1 t2 t3) k 4) : Nat) : Int) != ((sum s.data.toList : Nat) : Int)) = true := by
        rw [bne_iff_ne]
        exact fun e => HS.out (Int.ofNat_inj.1 e)
      go_wp2_with fail
      go_ret
      exact ⟨rfl, HB3.out⟩
theorem CrcTurned_walk (s : ByteArray) (at_ : Nat) (t0 t1 t2 t3 : UInt8) (hs : s.size ≤ maxLen) (hat : at_ < 65536) (w : World) (hT : Tab w) :
    Calls Tryd.prog 6 #[.string s, .int .u16 (at_ : Int), .agg #[.int .u8 t0.toNat, .int .u8 t1.toNat, .int .u8 t2.toNat, .int .u8 t3.toNat]] w fun e w' => e = .returned (.bool true) ∧ Below w.heap.size w w' := by
  by_cases h : s.size < 4 ∨ 2000 < s.size ∨ (t0 = 0 ∧ t1 = 0 ∧ t2 = 0 ∧ t3 = 0)
  · exact CrcTurned_out s at_ t0 t1 t2 t3 hs h w hT
  · exact CrcTurned_in s at_ t0 t1 t2 t3 (by omega) (by omega) (fun e => h (.inr (.inr e))) hat w hT
end Go.Proofs.YtopacbmdoognjaaDoor.Crc
