/- The walk of disk.Disk.do. -/
import Derived.Test.YtjnjcjildiadgaaGreatDoorDiskA
import Derived.StillTailTactics
namespace Go.Proofs.YtjnjcjildiadgaaGreatDoor.Disk
open Go Go.RowKit Frame
theorem sizeU8 (w : World) : (Go.sizeOf 5).run Tryz.prog w = .ok 1 w := by
  have h := infoU8
  simp only [Option.map_eq_some_iff] at h
  obtain ⟨i, hi, he⟩ := h
  simp only [Prod.mk.injEq] at he
  simp [Go.sizeOf, typeInfo, hi, he.2.1]
theorem bcells_put (l : List UInt8) (b : Nat) (d : List UInt8) : bcells (put l b d) = ((l.map fun b : UInt8 => Value.int .u8 (b.toNat : Int)).take (b * 64) ++ ((d.map fun b : UInt8 => Value.int .u8 (b.toNat : Int)) ++ (l.map fun b : UInt8 => Value.int .u8 (b.toNat : Int)).drop (b * 64 + (d.map fun b : UInt8 => Value.int .u8 (b.toNat : Int)).length))).toArray := by
  unfold bcells put
  rw [Nat.mul_comm 64 b]
  simp [List.map_take, List.map_drop]
theorem DoI.step {s : DSt} {L k b : Nat} {cut : Int} {w wr : World} {o : Obj} {t : List UInt8} (h : DoI s L k cut w wr) (hb : b * 64 + t.length ≤ (done s.last (s.wait.take k) cut).length)
    (hS : done s.last (s.wait.take (k + 1)) cut = put (done s.last (s.wait.take k) cut) b t) : DoI s L (k + 1) cut w (((wr.alloc o).drew).setCells L (b * 64) (t.map fun x : UInt8 => Value.int .u8 (x.toNat : Int))) := by
  refine ⟨?_, Only.setCells _ _ _ ((h.o.alloc _).drew)⟩
  rw [hS, bcells_put]
  exact Has.setCells _ _ _ _ ((h.l.alloc _).drew) (by simpa using hb)
theorem only_set_to {L d i : Nat} {w wr : World} (h : Only L w wr) (v : Value) (F : Nat → Prop) (hL : F L) (hF : F d) : Turn F w (wr.setCell ⟨d, i, none⟩ v) :=
  (Turn.mk h.os h.tape h.output h.size (fun k hk hne => h.block k hk (fun e => hne (by rw [e]; exact hL)))).setCell (.inl hF) v
set_option maxRecDepth 100000 in
set_option maxHeartbeats 1000000 in
theorem do_calls (base d L n : Nat) (wv : Value) (s : DSt) (cut : Int) (hc : -9223372036854775808 ≤ cut ∧ cut ≤ 9223372036854775807) (hf : Fits n s.wait) (hn : s.wait.length ≤ 100000) (hl : s.last.length = 64 * n) (hn' : n ≤ 4096) (w : World) (h : Dk base d L wv s w) :
    Calls Tryz.prog 52 #[.pointer (some ⟨d, 0, none⟩), .int .i64 cut] w fun e w' => e = .returned (.tuple #[]) ∧ Dk base d L (.slice none 0 0) { s with last := done s.last s.wait cut, wait := [] } w' ∧ Turn (Foot d L wv) w w' := by
  have c1 := h.c1
  have H := Lib.hid h
  have HF := Lib.hid hf
  have hdw := h.h.lt
  obtain ⟨hdL, hne1, hne2⟩ := h.ne
  have HI := Lib.hid (show DoI s L 0 cut w w from ⟨h.l, Only.refl _ _⟩)
  clear h hf
  obtain ⟨A, cap, rfl, hrow⟩ := H.out.row
  have HR := Lib.hid hrow
  clear hrow
  go_enter Tryz.func52, Tryz.ntmps52
  go_wp2_with fail
  go_loopw [1, 12] (fun c i wr => ∃ k : Nat, k ≤ s.wait.length ∧ i = .int .i64 k ∧ c = .int .i64 (left (s.wait.take k) cut) ∧ Hid (DoI s L k cut w wr)) (fun _ i _ => s.wait.length - (intOf i).toNat)
  case atStart => exact ⟨0, by omega, rfl, rfl, HI⟩
  case round =>
    obtain ⟨k, hk, rfl, rfl, hI⟩ := hrel
    by_cases hlt : k < s.wait.length
    · obtain ⟨g, rfl, hg, hi⟩ := HR.out (by omega)
      obtain ⟨r0, r1⟩ := hi k hlt
      have hgL : g ≠ L := fun e => hne2 (by rw [e]; rfl)
      rw [← hI.out.o.cell (p := ⟨g, k * 2, none⟩) hg hgL] at r0
      rw [← hI.out.o.cell (p := ⟨g, k * 2 + 1, none⟩) hg hgL] at r1
      have d0 : wr.cell? ⟨d, 0, none⟩ = some (.slice (some ⟨L, 0, none⟩) s.last.length s.last.length) := (hI.out.o.cell (p := ⟨d, 0, none⟩) hdw hdL).trans H.out.c0
      have HS := Lib.hid (done_step s.last s.wait k hlt cut)
      have hfx := HF.out _ (show s.wait.getD k (0, ByteArray.empty) ∈ s.wait by simp [List.getD_eq_getElem?_getD, hlt])
      have hll := left_le (s.wait.take k) cut
      clear hi
      generalize s.wait.getD k (0, ByteArray.empty) = x at *
      obtain ⟨b, t⟩ := x
      simp only at hfx r0 r1
      generalize left (s.wait.take k) cut = c at *
      by_cases hc0 : c ≤ 0
      · have hu : upto c t.size = 0 := by unfold upto; omega
        have HLE := Lib.hid (show ByteArray.empty.size ≤ 64 * n - b * 64 from Nat.zero_le _)
        have HSL := Lib.hid (show ByteArray.empty.data.toList.length = 0 from rfl)
        have HSE := Lib.hid (show t.data.toList.take 0 = ByteArray.empty.data.toList from rfl)
        have e1 : IntKind.i64.wrap ((b : Int) * 64) = (b : Int) * 64 := IntWalk.i64_in _ (by omega)
        have hk0 : (0 : Int) ≤ (b : Int) * 64 := by omega
        have hk1 : (b : Int) * 64 ≤ 64 * (n : Int) := by omega
        have hk2 : (b : Int) * 64 < 64 * (n : Int) := by omega
        have hk3 : b * 64 < 64 * n := by omega
        have hk5 : ((b : Int) * 64).toNat = b * 64 := by omega
        have hk6 : ¬ 64 * n = b * 64 := by omega
        have hk4 : b * 64 ≤ 64 * n := by omega
        go_wp2_with fail
        have y0 : (wr.alloc (.cells #[.int .i64 (b : Int), .string t] 120)).drew.cell? ⟨d, 0, none⟩ = some (.slice (some ⟨L, 0, none⟩) s.last.length s.last.length) := by
          have hdwr : d < wr.heap.size := Nat.lt_of_lt_of_le hdw hI.out.o.size
          rw [← d0]
          exact World.cell?_of_block (a := ⟨d, 0, none⟩) (Below.heap_alloc wr _ d hdwr)
        have y1 : (wr.alloc (.cells #[.int .i64 (b : Int), .string t] 120)).drew.cell? ⟨wr.heap.size, 0, none⟩ = some (.int .i64 (b : Int)) := (Has.new wr _ _).cell 0
        have y2 : (wr.alloc (.cells #[.int .i64 (b : Int), .string t] 120)).drew.cell? ⟨wr.heap.size, 1, none⟩ = some (.string t) := (Has.new wr _ _).cell 1
        have hcl : ∀ j, j < ByteArray.empty.size → ((wr.alloc (.cells #[.int .i64 (b : Int), .string t] 120)).drew.cell? ⟨L, b * 64 + j, none⟩).isSome = true := fun j hj => by
          have hz : ByteArray.empty.size = 0 := rfl
          rw [(hI.out.l.alloc (.cells #[.int .i64 (b : Int), .string t] 120)).drew.cell]
          have hdn := done_length n (s.wait.take k) s.last cut hl (fun x hx => HF.out x (List.mem_of_mem_take hx))
          rw [Array.getElem?_eq_getElem (by simp [bcells]; omega)]
          rfl
        have hfl : ∀ j, j < ByteArray.empty.size → (wr.alloc (.cells #[.int .i64 (b : Int), .string t] 120)).drew.frozen? ⟨L, b * 64 + j, none⟩ = false := fun j _ => (hI.out.l.alloc (.cells #[.int .i64 (b : Int), .string t] 120)).drew.frozen _
        have hzs : Only L (wr.alloc (.cells #[.int .i64 (b : Int), .string t] 120)).drew (((wr.alloc (.cells #[.int .i64 (b : Int), .string t] 120)).drew).setCells L (b * 64) (ByteArray.empty.data.toList.map fun x : UInt8 => Value.int .u8 (x.toNat : Int))) := Only.setCells _ _ _ (Only.refl _ _)
        have hsz : (wr.alloc (.cells #[.int .i64 (b : Int), .string t] 120)).drew.heap.size = wr.heap.size + 1 := by simp [World.drew]
        have hwL : wr.heap.size ≠ L := by have := hI.out.l.lt; omega
        have z0 := (hzs.cell (p := ⟨d, 0, none⟩) (by rw [hsz]; have := hI.out.o.size; show d < _; omega) hdL).trans y0
        have z1 := (hzs.cell (p := ⟨wr.heap.size, 0, none⟩) (by rw [hsz]; show wr.heap.size < _; omega) hwL).trans y1
        have z2 := (hzs.cell (p := ⟨wr.heap.size, 1, none⟩) (by rw [hsz]; show wr.heap.size < _; omega) hwL).trans y2
        have ZZ := Lib.hid (And.intro z0 (And.intro z1 z2))
        clear hzs hsz hwL z0 z1 z2
        have HCL := Lib.hid hcl
        have HFL := Lib.hid hfl
        clear hcl hfl
        go_region_held3 (fun w' => w'.cell? ⟨d, 0, none⟩ = some (.slice (some ⟨L, 0, none⟩) s.last.length s.last.length) ∧ w'.cell? ⟨wr.heap.size, 0, none⟩ = some (.int .i64 (b : Int)) ∧ w'.cell? ⟨wr.heap.size, 1, none⟩ = some (.string t)) (first | exact ⟨y0, y1, y2⟩ | exact ZZ.out | go_keep) ((refine step_copy_string rfl _ _ _ _ (by rfl) 5 Tryz.underlying54 sizeU8 L (b * 64) (64 * n - b * 64) (64 * n - b * 64) (by rfl) ByteArray.empty (by rfl) HLE.out HCL.out HFL.out ?_))
        have hdn := done_length n (s.wait.take k) s.last cut hl (fun x hx => HF.out x (List.mem_of_mem_take hx))
        have HN := Lib.hid (hI.out.step (o := .cells #[.int .i64 (b : Int), .string t] 120) (b := b) (t := ByteArray.empty.data.toList) (by rw [hdn, HSL.out]; omega) (by rw [HS.out.1, hu, HSE.out]))
        clear hdn y0 y1 y2
        generalize ((wr.alloc (.cells #[.int .i64 (b : Int), .string t] 120)).drew).setCells L (b * 64) (ByteArray.empty.data.toList.map fun x : UInt8 => Value.int .u8 (x.toNat : Int)) = w5 at *
        go_wp2_with fail
        exact ⟨⟨k + 1, by omega, by go_num, by rw [HS.out.2, hu] <;> simp, HN⟩, by simp [intOf]; omega⟩
      · by_cases hc1 : c ≤ t.size
        · obtain ⟨m, rfl⟩ : ∃ m : Nat, c = (m : Int) := ⟨c.toNat, by omega⟩
          have hu : upto (m : Int) t.size = m := by unfold upto; omega
          have hme : (t.extract 0 m).size = m := by simp; omega
          have HLE := Lib.hid (show (t.extract 0 m).size ≤ 64 * n - b * 64 by omega)
          have HSL := Lib.hid (show (t.extract 0 m).data.toList.length = m by simpa using hme)
          have HSE := Lib.hid (show t.data.toList.take m = (t.extract 0 m).data.toList by simp)
          clear hme
          have hm0 : (0 : Int) ≤ (m : Int) := by omega
          have hm1 : (m : Int) ≤ (t.size : Int) := by omega
          have hm2 : m ≤ t.size := by omega
          have e1 : IntKind.i64.wrap ((b : Int) * 64) = (b : Int) * 64 := IntWalk.i64_in _ (by omega)
          have hk0 : (0 : Int) ≤ (b : Int) * 64 := by omega
          have hk1 : (b : Int) * 64 ≤ 64 * (n : Int) := by omega
          have hk2 : (b : Int) * 64 < 64 * (n : Int) := by omega
          have hk3 : b * 64 < 64 * n := by omega
          have hk5 : ((b : Int) * 64).toNat = b * 64 := by omega
          have hk6 : ¬ 64 * n = b * 64 := by omega
          have hk4 : b * 64 ≤ 64 * n := by omega
          go_wp2_with fail
          have y0 : (wr.alloc (.cells #[.int .i64 (b : Int), .string t] 120)).drew.cell? ⟨d, 0, none⟩ = some (.slice (some ⟨L, 0, none⟩) s.last.length s.last.length) := by
            have hdwr : d < wr.heap.size := Nat.lt_of_lt_of_le hdw hI.out.o.size
            rw [← d0]
            exact World.cell?_of_block (a := ⟨d, 0, none⟩) (Below.heap_alloc wr _ d hdwr)
          have y1 : (wr.alloc (.cells #[.int .i64 (b : Int), .string t] 120)).drew.cell? ⟨wr.heap.size, 0, none⟩ = some (.int .i64 (b : Int)) := (Has.new wr _ _).cell 0
          have y2 : (wr.alloc (.cells #[.int .i64 (b : Int), .string t] 120)).drew.cell? ⟨wr.heap.size, 1, none⟩ = some (.string t) := (Has.new wr _ _).cell 1
          have hcl : ∀ j, j < (t.extract 0 m).size → ((wr.alloc (.cells #[.int .i64 (b : Int), .string t] 120)).drew.cell? ⟨L, b * 64 + j, none⟩).isSome = true := fun j hj => by
            have hz : (t.extract 0 m).size = m := (by simp; omega)
            rw [(hI.out.l.alloc (.cells #[.int .i64 (b : Int), .string t] 120)).drew.cell]
            have hdn := done_length n (s.wait.take k) s.last cut hl (fun x hx => HF.out x (List.mem_of_mem_take hx))
            rw [Array.getElem?_eq_getElem (by simp [bcells]; omega)]
            rfl
          have hfl : ∀ j, j < (t.extract 0 m).size → (wr.alloc (.cells #[.int .i64 (b : Int), .string t] 120)).drew.frozen? ⟨L, b * 64 + j, none⟩ = false := fun j _ => (hI.out.l.alloc (.cells #[.int .i64 (b : Int), .string t] 120)).drew.frozen _
          have hzs : Only L (wr.alloc (.cells #[.int .i64 (b : Int), .string t] 120)).drew (((wr.alloc (.cells #[.int .i64 (b : Int), .string t] 120)).drew).setCells L (b * 64) ((t.extract 0 m).data.toList.map fun x : UInt8 => Value.int .u8 (x.toNat : Int))) := Only.setCells _ _ _ (Only.refl _ _)
          have hsz : (wr.alloc (.cells #[.int .i64 (b : Int), .string t] 120)).drew.heap.size = wr.heap.size + 1 := by simp [World.drew]
          have hwL : wr.heap.size ≠ L := by have := hI.out.l.lt; omega
          have z0 := (hzs.cell (p := ⟨d, 0, none⟩) (by rw [hsz]; have := hI.out.o.size; show d < _; omega) hdL).trans y0
          have z1 := (hzs.cell (p := ⟨wr.heap.size, 0, none⟩) (by rw [hsz]; show wr.heap.size < _; omega) hwL).trans y1
          have z2 := (hzs.cell (p := ⟨wr.heap.size, 1, none⟩) (by rw [hsz]; show wr.heap.size < _; omega) hwL).trans y2
          have ZZ := Lib.hid (And.intro z0 (And.intro z1 z2))
          clear hzs hsz hwL z0 z1 z2
          have HCL := Lib.hid hcl
          have HFL := Lib.hid hfl
          clear hcl hfl
          go_region_held3 (fun w' => w'.cell? ⟨d, 0, none⟩ = some (.slice (some ⟨L, 0, none⟩) s.last.length s.last.length) ∧ w'.cell? ⟨wr.heap.size, 0, none⟩ = some (.int .i64 (b : Int)) ∧ w'.cell? ⟨wr.heap.size, 1, none⟩ = some (.string t)) (first | exact ⟨y0, y1, y2⟩ | exact ZZ.out | go_keep) ((refine step_copy_string rfl _ _ _ _ (by rfl) 5 Tryz.underlying54 sizeU8 L (b * 64) (64 * n - b * 64) (64 * n - b * 64) (by rfl) (t.extract 0 m) (by rfl) HLE.out HCL.out HFL.out ?_))
          have hdn := done_length n (s.wait.take k) s.last cut hl (fun x hx => HF.out x (List.mem_of_mem_take hx))
          have HN := Lib.hid (hI.out.step (o := .cells #[.int .i64 (b : Int), .string t] 120) (b := b) (t := (t.extract 0 m).data.toList) (by rw [hdn, HSL.out]; omega) (by rw [HS.out.1, hu, HSE.out]))
          clear hdn y0 y1 y2
          generalize ((wr.alloc (.cells #[.int .i64 (b : Int), .string t] 120)).drew).setCells L (b * 64) ((t.extract 0 m).data.toList.map fun x : UInt8 => Value.int .u8 (x.toNat : Int)) = w5 at *
          go_wp2_with fail
          exact ⟨⟨k + 1, by omega, by go_num, by rw [HS.out.2, hu] <;> simp, HN⟩, by simp [intOf]; omega⟩
        · rcases Nat.eq_zero_or_pos t.size with ht0 | ht0
          · obtain rfl : t = ByteArray.empty := by obtain ⟨⟨l⟩⟩ := t; simp [ByteArray.size] at ht0; subst ht0; rfl
            clear ht0
            have hu : upto c (ByteArray.empty).size = 0 := by unfold upto; simp; omega
            have HLE := Lib.hid (show ByteArray.empty.size ≤ 64 * n - b * 64 from Nat.zero_le _)
            have HSL := Lib.hid (show ByteArray.empty.data.toList.length = 0 from rfl)
            have HSE := Lib.hid (show (ByteArray.empty).data.toList.take 0 = ByteArray.empty.data.toList from rfl)
            have hcp : 0 < c := by omega
            have e1 : IntKind.i64.wrap ((b : Int) * 64) = (b : Int) * 64 := IntWalk.i64_in _ (by omega)
            have hk0 : (0 : Int) ≤ (b : Int) * 64 := by omega
            have hk1 : (b : Int) * 64 ≤ 64 * (n : Int) := by omega
            have hk2 : (b : Int) * 64 < 64 * (n : Int) := by omega
            have hk3 : b * 64 < 64 * n := by omega
            have hk5 : ((b : Int) * 64).toNat = b * 64 := by omega
            have hk6 : ¬ 64 * n = b * 64 := by omega
            have hk4 : b * 64 ≤ 64 * n := by omega
            go_wp2_with fail
            have y0 : (wr.alloc (.cells #[.int .i64 (b : Int), .string ByteArray.empty] 120)).drew.cell? ⟨d, 0, none⟩ = some (.slice (some ⟨L, 0, none⟩) s.last.length s.last.length) := by
              have hdwr : d < wr.heap.size := Nat.lt_of_lt_of_le hdw hI.out.o.size
              rw [← d0]
              exact World.cell?_of_block (a := ⟨d, 0, none⟩) (Below.heap_alloc wr _ d hdwr)
            have y1 : (wr.alloc (.cells #[.int .i64 (b : Int), .string ByteArray.empty] 120)).drew.cell? ⟨wr.heap.size, 0, none⟩ = some (.int .i64 (b : Int)) := (Has.new wr _ _).cell 0
            have y2 : (wr.alloc (.cells #[.int .i64 (b : Int), .string ByteArray.empty] 120)).drew.cell? ⟨wr.heap.size, 1, none⟩ = some (.string ByteArray.empty) := (Has.new wr _ _).cell 1
            have hcl : ∀ j, j < ByteArray.empty.size → ((wr.alloc (.cells #[.int .i64 (b : Int), .string ByteArray.empty] 120)).drew.cell? ⟨L, b * 64 + j, none⟩).isSome = true := fun j hj => by
              have hz : ByteArray.empty.size = 0 := rfl
              rw [(hI.out.l.alloc (.cells #[.int .i64 (b : Int), .string ByteArray.empty] 120)).drew.cell]
              have hdn := done_length n (s.wait.take k) s.last cut hl (fun x hx => HF.out x (List.mem_of_mem_take hx))
              rw [Array.getElem?_eq_getElem (by simp [bcells]; omega)]
              rfl
            have hfl : ∀ j, j < ByteArray.empty.size → (wr.alloc (.cells #[.int .i64 (b : Int), .string ByteArray.empty] 120)).drew.frozen? ⟨L, b * 64 + j, none⟩ = false := fun j _ => (hI.out.l.alloc (.cells #[.int .i64 (b : Int), .string ByteArray.empty] 120)).drew.frozen _
            have hzs : Only L (wr.alloc (.cells #[.int .i64 (b : Int), .string ByteArray.empty] 120)).drew (((wr.alloc (.cells #[.int .i64 (b : Int), .string ByteArray.empty] 120)).drew).setCells L (b * 64) (ByteArray.empty.data.toList.map fun x : UInt8 => Value.int .u8 (x.toNat : Int))) := Only.setCells _ _ _ (Only.refl _ _)
            have hsz : (wr.alloc (.cells #[.int .i64 (b : Int), .string ByteArray.empty] 120)).drew.heap.size = wr.heap.size + 1 := by simp [World.drew]
            have hwL : wr.heap.size ≠ L := by have := hI.out.l.lt; omega
            have z0 := (hzs.cell (p := ⟨d, 0, none⟩) (by rw [hsz]; have := hI.out.o.size; show d < _; omega) hdL).trans y0
            have z1 := (hzs.cell (p := ⟨wr.heap.size, 0, none⟩) (by rw [hsz]; show wr.heap.size < _; omega) hwL).trans y1
            have z2 := (hzs.cell (p := ⟨wr.heap.size, 1, none⟩) (by rw [hsz]; show wr.heap.size < _; omega) hwL).trans y2
            have ZZ := Lib.hid (And.intro z0 (And.intro z1 z2))
            clear hzs hsz hwL z0 z1 z2
            have HCL := Lib.hid hcl
            have HFL := Lib.hid hfl
            clear hcl hfl
            go_region_held3 (fun w' => w'.cell? ⟨d, 0, none⟩ = some (.slice (some ⟨L, 0, none⟩) s.last.length s.last.length) ∧ w'.cell? ⟨wr.heap.size, 0, none⟩ = some (.int .i64 (b : Int)) ∧ w'.cell? ⟨wr.heap.size, 1, none⟩ = some (.string ByteArray.empty)) (first | exact ⟨y0, y1, y2⟩ | exact ZZ.out | go_keep) ((refine step_copy_string rfl _ _ _ _ (by rfl) 5 Tryz.underlying54 sizeU8 L (b * 64) (64 * n - b * 64) (64 * n - b * 64) (by rfl) ByteArray.empty (by rfl) HLE.out HCL.out HFL.out ?_))
            have hdn := done_length n (s.wait.take k) s.last cut hl (fun x hx => HF.out x (List.mem_of_mem_take hx))
            have HN := Lib.hid (hI.out.step (o := .cells #[.int .i64 (b : Int), .string ByteArray.empty] 120) (b := b) (t := ByteArray.empty.data.toList) (by rw [hdn, HSL.out]; omega) (by rw [HS.out.1, hu, HSE.out]))
            clear hdn y0 y1 y2
            generalize ((wr.alloc (.cells #[.int .i64 (b : Int), .string ByteArray.empty] 120)).drew).setCells L (b * 64) (ByteArray.empty.data.toList.map fun x : UInt8 => Value.int .u8 (x.toNat : Int)) = w5 at *
            go_wp2_with fail
            exact ⟨⟨k + 1, by omega, by go_num, by rw [HS.out.2, hu] <;> simp, HN⟩, by simp [intOf]; omega⟩
          · have hu : upto c t.size = t.size := by unfold upto; omega
            have HLE := Lib.hid (show t.size ≤ 64 * n - b * 64 by omega)
            have HSL := Lib.hid (show t.data.toList.length = t.size by simp)
            have HSE := Lib.hid (show t.data.toList.take t.size = t.data.toList by rw [List.take_of_length_le]; simp)
            have hm0 : (0 : Int) < (t.size : Int) := by omega
            have hm1 : (t.size : Int) < c := by omega
            have e1 : IntKind.i64.wrap ((b : Int) * 64) = (b : Int) * 64 := IntWalk.i64_in _ (by omega)
            have hk0 : (0 : Int) ≤ (b : Int) * 64 := by omega
            have hk1 : (b : Int) * 64 ≤ 64 * (n : Int) := by omega
            have hk2 : (b : Int) * 64 < 64 * (n : Int) := by omega
            have hk3 : b * 64 < 64 * n := by omega
            have hk5 : ((b : Int) * 64).toNat = b * 64 := by omega
            have hk6 : ¬ 64 * n = b * 64 := by omega
            have hk4 : b * 64 ≤ 64 * n := by omega
            go_wp2_with fail
            have y0 : (wr.alloc (.cells #[.int .i64 (b : Int), .string t] 120)).drew.cell? ⟨d, 0, none⟩ = some (.slice (some ⟨L, 0, none⟩) s.last.length s.last.length) := by
              have hdwr : d < wr.heap.size := Nat.lt_of_lt_of_le hdw hI.out.o.size
              rw [← d0]
              exact World.cell?_of_block (a := ⟨d, 0, none⟩) (Below.heap_alloc wr _ d hdwr)
            have y1 : (wr.alloc (.cells #[.int .i64 (b : Int), .string t] 120)).drew.cell? ⟨wr.heap.size, 0, none⟩ = some (.int .i64 (b : Int)) := (Has.new wr _ _).cell 0
            have y2 : (wr.alloc (.cells #[.int .i64 (b : Int), .string t] 120)).drew.cell? ⟨wr.heap.size, 1, none⟩ = some (.string t) := (Has.new wr _ _).cell 1
            have hcl : ∀ j, j < t.size → ((wr.alloc (.cells #[.int .i64 (b : Int), .string t] 120)).drew.cell? ⟨L, b * 64 + j, none⟩).isSome = true := fun j hj => by
              have hz : t.size = t.size := rfl
              rw [(hI.out.l.alloc (.cells #[.int .i64 (b : Int), .string t] 120)).drew.cell]
              have hdn := done_length n (s.wait.take k) s.last cut hl (fun x hx => HF.out x (List.mem_of_mem_take hx))
              rw [Array.getElem?_eq_getElem (by simp [bcells]; omega)]
              rfl
            have hfl : ∀ j, j < t.size → (wr.alloc (.cells #[.int .i64 (b : Int), .string t] 120)).drew.frozen? ⟨L, b * 64 + j, none⟩ = false := fun j _ => (hI.out.l.alloc (.cells #[.int .i64 (b : Int), .string t] 120)).drew.frozen _
            have hzs : Only L (wr.alloc (.cells #[.int .i64 (b : Int), .string t] 120)).drew (((wr.alloc (.cells #[.int .i64 (b : Int), .string t] 120)).drew).setCells L (b * 64) (t.data.toList.map fun x : UInt8 => Value.int .u8 (x.toNat : Int))) := Only.setCells _ _ _ (Only.refl _ _)
            have hsz : (wr.alloc (.cells #[.int .i64 (b : Int), .string t] 120)).drew.heap.size = wr.heap.size + 1 := by simp [World.drew]
            have hwL : wr.heap.size ≠ L := by have := hI.out.l.lt; omega
            have z0 := (hzs.cell (p := ⟨d, 0, none⟩) (by rw [hsz]; have := hI.out.o.size; show d < _; omega) hdL).trans y0
            have z1 := (hzs.cell (p := ⟨wr.heap.size, 0, none⟩) (by rw [hsz]; show wr.heap.size < _; omega) hwL).trans y1
            have z2 := (hzs.cell (p := ⟨wr.heap.size, 1, none⟩) (by rw [hsz]; show wr.heap.size < _; omega) hwL).trans y2
            have ZZ := Lib.hid (And.intro z0 (And.intro z1 z2))
            clear hzs hsz hwL z0 z1 z2
            have HCL := Lib.hid hcl
            have HFL := Lib.hid hfl
            clear hcl hfl
            go_region_held3 (fun w' => w'.cell? ⟨d, 0, none⟩ = some (.slice (some ⟨L, 0, none⟩) s.last.length s.last.length) ∧ w'.cell? ⟨wr.heap.size, 0, none⟩ = some (.int .i64 (b : Int)) ∧ w'.cell? ⟨wr.heap.size, 1, none⟩ = some (.string t)) (first | exact ⟨y0, y1, y2⟩ | exact ZZ.out | go_keep) ((refine step_copy_string rfl _ _ _ _ (by rfl) 5 Tryz.underlying54 sizeU8 L (b * 64) (64 * n - b * 64) (64 * n - b * 64) (by rfl) t (by rfl) HLE.out HCL.out HFL.out ?_))
            have hdn := done_length n (s.wait.take k) s.last cut hl (fun x hx => HF.out x (List.mem_of_mem_take hx))
            have HN := Lib.hid (hI.out.step (o := .cells #[.int .i64 (b : Int), .string t] 120) (b := b) (t := t.data.toList) (by rw [hdn, HSL.out]; omega) (by rw [HS.out.1, hu, HSE.out]))
            clear hdn y0 y1 y2
            generalize ((wr.alloc (.cells #[.int .i64 (b : Int), .string t] 120)).drew).setCells L (b * 64) (t.data.toList.map fun x : UInt8 => Value.int .u8 (x.toNat : Int)) = w5 at *
            go_wp2_with fail
            exact ⟨⟨k + 1, by omega, by go_num, by rw [HS.out.2, hu] <;> simp, HN⟩, by simp [intOf]; omega⟩
    · obtain rfl : k = s.wait.length := by omega
      have f1 := (hI.out.o.frozen (p := ⟨d, 1, none⟩) hdw hdL).trans (H.out.h.frozen 1)
      have c1w := (hI.out.o.cell (p := ⟨d, 1, none⟩) hdw hdL).trans c1
      go_wp2_with fail
      go_end0
      have hlen := done_length n s.wait s.last cut hl HF.out
      have hl2 := hI.out.l
      rw [List.take_length] at hl2
      refine ⟨rfl, ⟨?_, ?_, ⟨rfl, .inl ⟨rfl, rfl⟩⟩, ⟨hdL, by simp [Value.ownBlock], by simp [Value.ownBlock]⟩, H.out.hb⟩, ?_⟩
      · have h1 := (H.out.h.only hI.out.o hdL).set (i := 1) (.slice none 0 0)
        rw [hlen]
        simpa [hl] using h1
      · exact hl2.set_other (p := ⟨d, 1, none⟩) hdL _
      · exact only_set_to hI.out.o (.slice none 0 0) (Foot d L (.slice A s.wait.length cap)) (.inr (.inl rfl)) (.inl rfl)
end Go.Proofs.YtjnjcjildiadgaaGreatDoor.Disk
