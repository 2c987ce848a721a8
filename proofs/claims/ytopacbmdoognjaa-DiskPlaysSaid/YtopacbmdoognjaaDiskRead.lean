/- The walk of disk.Disk.Read. -/
import Derived.Test.YtopacbmdoognjaaDiskRefE
import Derived.Shelf.Spec.SlicesInsert
namespace Go.Proofs.Ytopacbmdoognjaa.Disk
open Go Go.RowKit Frame
/-- A block of 64 bytes of a disk. -/
def blk (l : List UInt8) (k : Nat) : List UInt8 := (l.drop (64 * k)).take 64
theorem blk_length (l : List UInt8) (k n : Nat) (hl : l.length = 64 * n) (hk : k < n) : (blk l k).length = 64 := by unfold blk; simp; omega
theorem blk_put (l : List UInt8) (k n : Nat) (d : List UInt8) (hl : l.length = 64 * n) (hk : k < n) (hd : d.length ≤ 64) : blk (put l k d) k = d ++ (blk l k).drop d.length := by
  unfold blk put
  have h1 : (l.take (64 * k)).length = 64 * k := by simp; omega
  rw [List.drop_append_of_le_length (by omega), List.drop_of_length_le (by omega), List.nil_append, List.take_append, List.take_of_length_le hd]
  congr 1
  rw [List.drop_take, List.drop_drop]
theorem size1U8 : (Try.prog.info? 5).map (·.size) = some 1 := by
  have h := infoU8
  simp only [Option.map_eq_some_iff] at h ⊢
  obtain ⟨i, hi, he⟩ := h
  simp only [Prod.mk.injEq] at he
  exact ⟨i, hi, he.2.1⟩
/-- What Read has gathered of some of the writes. -/
structure ReadI (last : List UInt8) (ws : List Wr) (q k : Nat) (w wr : World) : Prop where
  has : Has w.heap.size (bcells (blk (all last (ws.take k)) q)) 128 wr
  bel : Below w.heap.size w wr
theorem setCells_has {b : Nat} {l d : List UInt8} {t : TypeId} {w : World} (h : Has b (bcells l) t w) (hl : d.length ≤ l.length) : Has b (bcells (d ++ l.drop d.length)) t (w.setCells b 0 (d.map fun x : UInt8 => Value.int .u8 (x.toNat : Int))) := by
  have := Has.setCells (d.map fun x : UInt8 => Value.int .u8 (x.toNat : Int)) 0 _ _ h (by simpa using hl)
  simpa [bcells, List.map_drop] using this
theorem setCells_below {B b o : Nat} {a w : World} (h : Below B a w) (hb : B ≤ b) (hB : B ≤ w.heap.size) (vs : List Value) : Below B a (w.setCells b o vs) :=
  Only.to_below h (Only.setCells vs o _ (Only.refl b w)) hb hB
theorem all_snoc (s : List UInt8) (ws : List Wr) (b : Nat) (t : ByteArray) : all s (ws ++ [(b, t)]) = put (all s ws) b t.data.toList := by
  rw [all_append]
  rfl
set_option maxRecDepth 100000 in
set_option maxHeartbeats 2000000 in
theorem Read_yes (base d L n : Nat) (wv : Value) (s : DSt) (q : Nat) (hc : chk s q = 0) (hs : Good n s) (w : World) (h : Dk base d L wv s w) :
    Calls Try.prog 54 #[.pointer (some ⟨d, 0, none⟩), .int .i64 (q : Int)] w fun e w' => e = .returned (.tuple #[.string (Oct.bs (blk (all s.last s.wait) q)), .int .i64 0]) ∧ Below w.heap.size w w' := by
  have hl : s.last.length ≤ 262144 := by have := hs.len; have := hs.hn; omega
  have HC := Lib.hid (check_calls base d L wv s q hl _ h)
  rw [hc] at HC
  have hqn : q < n := by
    obtain ⟨_, _, h4⟩ := chk_zero hc
    have := hs.len
    omega
  have hll := hs.len
  have hn := hs.hn
  have HG := Lib.hid hs
  have H := Lib.hid h
  have hLw := h.l.lt
  have hdw := h.h.lt
  have HBL := Lib.hid (blk_length s.last q n hs.len hqn)
  clear hs h hc
  go_enter Try.func54, Try.ntmps54
  go_wp2_with fail
  refine HC.out.mono ?_
  rintro e w1 ⟨rfl, rfl⟩
  have e1 : IntKind.i64.wrap ((q : Int) * 64) = (q : Int) * 64 := IntWalk.i64_in _ (by omega)
  have hk0 : (0 : Int) ≤ (q : Int) * 64 := by omega
  have hk1 : (q : Int) * 64 ≤ 64 * (n : Int) := by omega
  have hk2 : (q : Int) * 64 < 64 * (n : Int) := by omega
  have hk3 : q * 64 < 64 * n := by omega
  have hk5 : ((q : Int) * 64).toNat = q * 64 := by omega
  have hk6 : ¬ 64 * n = q * 64 := by omega
  have hk4 : q * 64 ≤ 64 * n := by omega
  go_wp2_with fail
  change Code.wp _ _ _ _ (w.alloc (.cells (bcells (List.replicate 64 0)) 128))
  have HW1 := Lib.hid (Has.new w (bcells (List.replicate 64 0)) 128)
  have HB1 := Lib.hid ((Below.refl w.heap.size w).alloc (Nat.le_refl _) (.cells (bcells (List.replicate 64 0)) 128))
  generalize w.alloc (.cells (bcells (List.replicate 64 0)) 128) = w1 at *
  have H1 := Lib.hid (H.out.below HB1.out)
  have y0 : w1.drew.cell? ⟨d, 0, none⟩ = some (.slice (some ⟨L, 0, none⟩) s.last.length s.last.length) := H1.out.c0
  have hcs : ((blk s.last q).map fun x : UInt8 => Value.int .u8 (x.toNat : Int)).length = 64 := by rw [List.length_map]; exact HBL.out
  have HCP := Lib.hid (run_copy_cells (P := Try.prog) w1.drew 103 103 3 5 w.heap.size 0 64 64 ⟨L, q * 64, none⟩ (64 * n - q * 64) (64 * n - q * 64) ((blk s.last q).map fun x : UInt8 => Value.int .u8 (x.toNat : Int)) Try.underlying103 size1U8
    (by rw [hcs]; show 64 = min (64 * n - q * 64) 64; omega)
    (fun j v hj => by
      have hadd : (⟨L, q * 64, none⟩ : Addr).add j = ⟨L, q * 64 + j, none⟩ := by unfold Addr.add; split <;> simp_all
      rw [hadd, H1.out.l.drew.cell]
      have hjl : j < 64 := by
        rcases Nat.lt_or_ge j 64 with h | h
        · exact h
        · rw [List.getElem?_eq_none (by rw [hcs]; exact h)] at hj; cases hj
      rw [← hj]
      simp only [bcells, blk, List.getElem?_toArray, List.getElem?_map, List.getElem?_take_of_lt hjl, List.getElem?_drop]
      rw [Nat.mul_comm q 64])
    (fun j hj => by
      rw [hcs] at hj
      rw [HW1.out.drew.cell, Array.getElem?_eq_getElem (by simp [bcells]; omega)]
      rfl)
    (fun j _ => HW1.out.drew.frozen _)
    (fun v hv => by
      rw [List.mem_map] at hv
      obtain ⟨x, _, rfl⟩ := hv
      rfl))
  clear hcs
  have hsz1 : w.heap.size ≤ w1.drew.heap.size := HB1.out.size
  have z0 := ((Only.setCells ((blk s.last q).map fun x : UInt8 => Value.int .u8 (x.toNat : Int)) 0 _ (Only.refl w.heap.size w1.drew)).cell (p := ⟨d, 0, none⟩) (by show d < _; omega) (by show d ≠ _; omega)).trans y0
  have Z0 := Lib.hid z0
  clear z0
  go_wp2_with fail
  go_region_held3 (fun w' => w'.cell? ⟨d, 0, none⟩ = some (.slice (some ⟨L, 0, none⟩) s.last.length s.last.length)) (first | exact y0 | exact Z0.out)
    ((refine step_copy_runI rfl _ _ _ _ (by rfl) _ _ (by rfl) (by rfl) HCP.out ?_))
  have HI := Lib.hid (show ReadI s.last s.wait q 0 w (w1.drew.setCells w.heap.size 0 ((blk s.last q).map fun x : UInt8 => Value.int .u8 (x.toNat : Int))) from
    ⟨by
      have h := setCells_has HW1.out.drew (d := blk s.last q) (by rw [HBL.out]; simp)
      rw [HBL.out, List.drop_of_length_le (by simp), List.append_nil] at h
      exact h, setCells_below HB1.out.drew (Nat.le_refl _) hsz1 _⟩)
  clear HW1 y0 Z0 HCP
  generalize w1.drew.setCells w.heap.size 0 ((blk s.last q).map fun x : UInt8 => Value.int .u8 (x.toNat : Int)) = w2 at *
  obtain ⟨A, cap, rfl, hrow⟩ := H.out.row
  have HR := Lib.hid hrow
  have c1 := (HI.out.bel.cell (p := ⟨d, 1, none⟩) hdw).trans H.out.c1
  have hmn := HG.out.many
  clear hrow
  go_wp2_with fail
  go_loopw [30] (fun i wr => ∃ k : Nat, k ≤ s.wait.length ∧ i = .int .i64 k ∧ Hid (ReadI s.last s.wait q k w wr)) (fun i _ => s.wait.length - (intOf i).toNat)
  case atStart => exact ⟨0, by omega, rfl, HI⟩
  case round =>
    obtain ⟨k, hk, rfl, hI⟩ := hrel
    by_cases hlt : k < s.wait.length
    · obtain ⟨g, rfl, hg, hi⟩ := HR.out (by omega)
      obtain ⟨r0, r1⟩ := hi k hlt
      have hcc := fun o => hI.out.bel.cell (p := ⟨g, o, none⟩) hg
      rw [← hcc] at r0 r1
      clear hi hcc
      have hfx := HG.out.fits _ (show s.wait.getD k (0, ByteArray.empty) ∈ s.wait by simp [List.getD_eq_getElem?_getD, hlt])
      have HS := Lib.hid (take_snoc s.wait k hlt)
      have hal := all_length n (s.wait.take k) s.last HG.out.len (fun x hx => HG.out.fits x (List.mem_of_mem_take hx))
      have HAL := Lib.hid hal
      clear hal
      generalize s.wait.getD k (0, ByteArray.empty) = x at *
      obtain ⟨b, t⟩ := x
      simp only at hfx r0 r1
      by_cases hb : b = q
      · subst hb
        have HBL2 := Lib.hid (blk_length _ b n HAL.out hqn)
        have hX : Has wr.heap.size #[.int .i64 (b : Int), .string t] 115 (wr.alloc (.cells #[.int .i64 (b : Int), .string t] 115)).drew := (Has.new _ _ _).drew
        have hRX : Has w.heap.size (bcells (blk (all s.last (s.wait.take k)) b)) 128 (wr.alloc (.cells #[.int .i64 (b : Int), .string t] 115)).drew := (hI.out.has.alloc _).drew
        have x1 := hX.cell 1
        have hwr := hI.out.has.lt
        have z1 := ((Only.setCells (t.data.toList.map fun x : UInt8 => Value.int .u8 (x.toNat : Int)) 0 _ (Only.refl w.heap.size (wr.alloc (.cells #[.int .i64 (b : Int), .string t] 115)).drew)).cell (p := ⟨wr.heap.size, 1, none⟩) hX.lt (by show wr.heap.size ≠ _; omega)).trans x1
        have hcl : ∀ j, j < t.size → ((wr.alloc (.cells #[.int .i64 (b : Int), .string t] 115)).drew.cell? ⟨w.heap.size, 0 + j, none⟩).isSome = true := fun j hj => by
          rw [hRX.cell, Array.getElem?_eq_getElem (by simp only [bcells, List.size_toArray, List.length_map, HBL2.out]; omega)]
          rfl
        have hfl : ∀ j, j < t.size → (wr.alloc (.cells #[.int .i64 (b : Int), .string t] 115)).drew.frozen? ⟨w.heap.size, 0 + j, none⟩ = false := fun j _ => hRX.frozen _
        have HCL := Lib.hid hcl
        have HFL := Lib.hid hfl
        have Z1 := Lib.hid z1
        have HT64 := Lib.hid hfx.2
        have HJ := Lib.hid (show ReadI s.last s.wait b (k + 1) w ((wr.alloc (.cells #[.int .i64 (b : Int), .string t] 115)).drew.setCells w.heap.size 0 (t.data.toList.map fun x : UInt8 => Value.int .u8 (x.toNat : Int))) from
          ⟨by
            rw [HS.out, all_snoc, blk_put _ b n _ HAL.out hqn (by simpa using hfx.2)]
            exact setCells_has hRX (by rw [HBL2.out]; simpa using hfx.2), setCells_below ((hI.out.bel.alloc hI.out.bel.size _).drew) (Nat.le_refl _) (by have := hRX.lt; omega) _⟩)
        clear hcl hfl z1 hX hRX
        go_wp2_with fail
        go_region_held3 (fun w' => w'.cell? ⟨wr.heap.size, 1, none⟩ = some (.string t)) (first | exact x1 | exact Z1.out)
          ((refine step_copy_string rfl _ _ _ _ (by rfl) 5 Try.underlying103 sizeU8 w.heap.size 0 64 64 (by rfl) t (by rfl) HT64.out HCL.out HFL.out ?_))
        clear x1 Z1 HCL HFL
        generalize (wr.alloc (.cells #[.int .i64 (b : Int), .string t] 115)).drew.setCells w.heap.size 0 (t.data.toList.map fun x : UInt8 => Value.int .u8 (x.toNat : Int)) = w5 at *
        go_wp2_with fail
        exact ⟨⟨k + 1, by omega, by go_num, HJ⟩, by simp [intOf]; omega⟩
      · have hb' : ((b : Int) == (q : Int)) = false := by simp; omega
        have HJ := Lib.hid (show ReadI s.last s.wait q (k + 1) w (wr.alloc (.cells #[.int .i64 (b : Int), .string t] 115)) from
          ⟨by
            rw [HS.out, all_snoc, show blk (put (all s.last (s.wait.take k)) b t.data.toList) q = blk (all s.last (s.wait.take k)) q from
              put_other _ b _ n q HAL.out hfx.1 (by simpa using hfx.2) (fun e => hb e.symm)]
            exact hI.out.has.alloc _, hI.out.bel.alloc hI.out.bel.size _⟩)
        clear hb
        go_wp2_with fail
        exact ⟨⟨k + 1, by omega, by go_num, HJ⟩, by simp [intOf]; omega⟩
    · obtain rfl : k = s.wait.length := by omega
      have hw := hI.out.has
      rw [List.take_length] at hw
      have hal := all_length n s.wait s.last HG.out.len HG.out.fits
      have hbl := blk_length _ q n hal hqn
      generalize hrr : blk (all s.last s.wait) q = r at *
      have HRR := Lib.hid hrr
      clear hrr
      have hby : Lib.Bytes wr w.heap.size 0 (Oct.bs r) := fun i hi => by
        rw [hw.cell]
        have hi' : i < r.length := by rw [← Oct.bs_size]; exact hi
        simp only [bcells, Nat.zero_add, List.getElem?_toArray, List.getElem?_map, List.getElem?_eq_getElem hi', Option.map_some]
        rfl
      have hcv := Lib.run_convert_whole (P := Try.prog) wr 103 5 9 Try.underlying103 Try.underlying5 Try.underlying9 w.heap.size 0 (Oct.bs r) hby 64
      rw [Oct.bs_size, hbl] at hcv
      clear hby hw hal hbl
      go_wp2_with fail
      go_ret2
      rw [HRR.out]
      exact ⟨rfl, hI.out.bel⟩
end Go.Proofs.Ytopacbmdoognjaa.Disk
