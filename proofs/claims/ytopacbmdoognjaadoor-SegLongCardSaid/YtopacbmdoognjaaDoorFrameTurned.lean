/- The walk of FrameTurned. -/
import Derived.Test.YtopacbmdoognjaaDoorFrameShort
import Derived.Lib.ConvBytes
import Derived.Lib.SlBytesRow
import Derived.Laws.BitsAllLaws
import Derived.Laws.BitsLemmas
namespace Go.Proofs.YtopacbmdoognjaaDoor.Frm
open Go Go.RowKit Frame Oct
/-- Bytes in a row that may be written. -/
structure Row (b : Nat) (l : List UInt8) (w : World) : Prop where
  cell : ∀ j, j < l.length → w.cell? ⟨b, j, none⟩ = some (.int .u8 ((l.getD j 0).toNat : Int))
  free : ∀ j, j < l.length → w.frozen? ⟨b, j, none⟩ = false
theorem Row.start (w : World) (e : TypeId) (l : List UInt8) : Row w.heap.size l (Lib.bytesWorld w e (bs l)) := by
  refine ⟨fun j hj => ?_, fun j hj => ?_⟩
  · exact Lib.bytesWorld_cell w e (bs l) j (by rw [bs_size]; exact hj)
  · have hc := Lib.bytesWorld_at_new w e (bs l)
    have hjs : j < (bs l).size := by rw [bs_size]; exact hj
    have hl : j < (Lib.bytesCells w e (bs l)).size := by
      simp [Lib.bytesCells]
      omega
    simp only [World.frozen?, hc]
    simp; omega
theorem bytes_below (w : World) (e : TypeId) (s : ByteArray) : Below w.heap.size w (Lib.bytesWorld w e s) := ⟨rfl, rfl, rfl, by rw [Lib.bytesWorld_size]; omega, fun j hj => Lib.bytesWorld_at_old w e s j hj⟩
theorem Row.set {b k : Nat} {l : List UInt8} {w : World} (h : Row b l w) (x : UInt8) (hk : k < l.length) : Row b (l.set k x) (w.setCell ⟨b, k, none⟩ (.int .u8 (x.toNat : Int))) := by
  refine ⟨fun j hj => ?_, fun j hj => ?_⟩
  · rw [List.length_set] at hj
    by_cases e : j = k
    · subst e
      rw [List.getD_eq_getElem?_getD, List.getElem?_set_self hk]
      exact World.cell?_setCell_same w ⟨b, j, none⟩ _ (h.cell j hj)
    · rw [List.getD_eq_getElem?_getD, List.getElem?_set_ne (fun h => e h.symm), ← List.getD_eq_getElem?_getD, ← h.cell j hj]
      exact World.cell?_setCell_other w ⟨b, k, none⟩ ⟨b, j, none⟩ _ (fun h => e (by injection h with _ h; exact h.symm))
  · rw [List.length_set] at hj
    rw [World.frozen?_setCell]
    exact h.free j hj
theorem Row.bytes {b : Nat} {l : List UInt8} {w : World} (h : Row b l w) : Lib.Bytes w b 0 (bs l) := fun i hi => by
  have hi' : i < l.length := by rw [← bs_size]; exact hi
  rw [Nat.zero_add, h.cell i hi']
  simp only [List.getD_eq_getElem?_getD, List.getElem?_eq_getElem hi', Option.getD_some]
  rfl
theorem xor_ne (a t : UInt8) (h : t ≠ 0) : a ^^^ t ≠ a := by
  intro e
  apply h
  have h1 : a ^^^ (a ^^^ t) = a ^^^ a := by rw [e]
  rw [← UInt8.xor_assoc, UInt8.xor_self, UInt8.zero_xor] at h1
  exact h1
set_option maxRecDepth 100000 in
set_option maxHeartbeats 2000000 in
theorem FrameTurned_walk (f : Fm) (at_ : Nat) (turn : UInt8) (hb : f.body.length ≤ maxLen) (hc : at_ < 65536) (w : World) (hT : Crc.Tab w) :
    Calls Tryd.prog 8 #[FV f, .int .u16 (at_ : Int), .int .u8 (turn.toNat : Int)] w fun e w' => e = .returned (.bool true) ∧ Below w.heap.size w w' := by
  unfold maxLen at hb
  have hz : (bs f.body).size = f.body.length := bs_size _
  have hB0 : Below w.heap.size w (w.alloc (.cells #[.int .u8 f.ch.toNat, .int .u8 f.kd.toNat, .string (bs f.body)] 35)) := (Below.refl _ _).alloc (Nat.le_refl _) _
  have HN := Lib.hid (Has.new w #[.int .u8 f.ch.toNat, .int .u8 f.kd.toNat, .string (bs f.body)] 35)
  have HT := Lib.hid (hT.below hB0)
  have HB0 := Lib.hid hB0
  clear hT hB0
  have HBY := Lib.hid (fun h W => Bytes_calls f h W)
  unfold FV at HBY ⊢
  go_enter Tryd.func8, Tryd.ntmps8
  go_wp2_with fail
  generalize w.alloc (.cells #[.int .u8 f.ch.toNat, .int .u8 f.kd.toNat, .string (bs f.body)] 35) = w0 at *
  refine (awake_calls _ HT.out).mono ?_
  rintro e w1 ⟨rfl, b1⟩
  have HT1 := Lib.hid (HT.out.below b1)
  have HN1 := Lib.hid (HN.out.below b1)
  have B1 := Lib.hid (bthen HB0.out b1)
  clear b1
  have y0 := HN1.out.cell 0; have y1 := HN1.out.cell 1; have y2 := HN1.out.cell 2
  by_cases h3 : 300 < f.body.length
  · go_wp2_with fail
    go_ret
    exact ⟨rfl, B1.out⟩
  · by_cases ht : turn = 0
    · subst ht
      have ht0 : ((0 : UInt8).toNat : Int) = 0 := by decide
      go_wp2_with fail
      go_ret
      exact ⟨rfl, B1.out⟩
    · have ht0 : ((turn.toNat : Int) == 0) = false := by
        have : turn.toNat ≠ 0 := fun e => ht (UInt8.toNat_inj.1 (by simpa using e))
        exact beq_eq_false_iff_ne.2 (by omega)
      have hbl := bytes_length f
      have hz2 : (bs (bytes f)).size = f.body.length + 9 := by rw [bs_size, hbl]
      obtain ⟨k, hk⟩ : ∃ k, at_ % (f.body.length + 9) = k := ⟨_, rfl⟩
      have hkl : k < f.body.length + 9 := by rw [← hk]; exact Nat.mod_lt _ (by omega)
      have hkk : (at_ : Int) % ((f.body.length + 9 : Nat) : Int) = (k : Int) := by rw [← hk]; omega
      have hkk2 : (at_ : Int) % ((f.body.length : Int) + 9) = (k : Int) := hkk
      clear hk
      go_wp2_with fail
      refine (HBY.out (by omega) _ HT1.out).mono ?_
      rintro e w2 ⟨rfl, b2⟩
      have HT2 := Lib.hid (HT1.out.below b2)
      have B2 := Lib.hid (bthen B1.out b2)
      clear b2 y0 y1 y2
      have hcv := fun W => Lib.run_convert_string_bytes (P := Tryd.prog) W 9 32 5 (bs (bytes f)) (u := .string) Tryd.underlying9 Tryd.underlying32 Tryd.underlying5
      have hcv := hcv w2
      rw [hz2] at hcv
      have HR := Lib.hid (Row.start w2 5 (bytes f))
      have b3 := bytes_below w2 5 (bs (bytes f))
      have HT3 := Lib.hid (HT2.out.below b3)
      have B3 := Lib.hid (bthen B2.out b3)
      have hw2 := B2.out.size
      clear b3
      by_cases hk2 : k = 2
      · subst hk2
        go_wp2_with fail
        go_ret
        exact ⟨rfl, B3.out⟩
      · by_cases hk3 : k = 3
        · subst hk3
          go_wp2_with fail
          go_ret
          exact ⟨rfl, B3.out⟩
        · have hk2' : ((k : Int) == 2) = false := beq_eq_false_iff_ne.2 (by omega)
          have hk3' : ((k : Int) == 3) = false := beq_eq_false_iff_ne.2 (by omega)
          have hkb : k < (bytes f).length := by omega
          have HC := Lib.hid (HR.out.cell k hkb)
          have HF := Lib.hid (HR.out.free k hkb)
          have hgk : (bytes f).getD k 0 = (bytes f)[k] := by simp [List.getD_eq_getElem?_getD, hkb]
          have HV := Lib.hid (show Go.bits .xor .u8 (((bytes f).getD k 0).toNat : Int) (turn.toNat : Int) = ((((bytes f).getD k 0) ^^^ turn).toNat : Int) by
            rw [UInt8.toNat_xor]
            exact u8_xor_nat _ _ (by have := ((bytes f).getD k 0).toNat_lt; omega) (by have := turn.toNat_lt; omega))
          have HNX := Lib.hid (show (bytes f).getD k 0 ^^^ turn ≠ (bytes f)[k] by rw [hgk]; exact xor_ne _ _ ht)
          have hrs := HR.out.set ((bytes f).getD k 0 ^^^ turn) hkb
          rw [UInt8.toNat_xor] at hrs
          have HRS := Lib.hid hrs
          clear hrs
          have HPT := Lib.hid (parse_turned f (by omega) k ((bytes f).getD k 0 ^^^ turn) hkb hk2 hk3 HNX.out)
          have hnb : ((bytes f).set k ((bytes f).getD k 0 ^^^ turn)).length = f.body.length + 9 := by rw [List.length_set, hbl]
          have HNB := Lib.hid hnb
          have HPC := Lib.hid (fun W h => Parse_calls ((bytes f).set k ((bytes f).getD k 0 ^^^ turn)) (by rw [HNB.out]; omega) W h)
          clear hk2 hk3 hgk hnb
          generalize (bytes f).set k ((bytes f).getD k 0 ^^^ turn) = nb at *
          have hv := HV.out
          have hc := HC.out
          have hf := HF.out
          have hcb := fun cap => Lib.run_convert_whole (P := Tryd.prog) _ 32 5 9 Tryd.underlying32 Tryd.underlying5 Tryd.underlying9 w2.heap.size 0 (bs nb) HRS.out.bytes cap
          rw [show (bs nb).size = f.body.length + 9 by rw [bs_size, HNB.out]] at hcb
          have b4 := (bytes_below w2 5 (bs (bytes f))).setCell (p := ⟨w2.heap.size, k, none⟩) (Nat.le_refl _) (.int .u8 ((((bytes f).getD k 0).toNat ^^^ turn.toNat : Nat) : Int))
          have HT4 := Lib.hid (HT2.out.below b4)
          have B4 := Lib.hid (bthen B2.out b4)
          clear b4
          have g1 : (0 : Int) ≤ (k : Int) := by omega
          have g2 : (k : Int) < (f.body.length : Int) + 9 := by omega
          generalize (bytes f).getD k 0 = x at *
          go_wp2_with fail
          have HPC2 := Lib.hid (HPC.out _ HT4.out)
          generalize (Lib.bytesWorld w2 5 (bs (bytes f))).setCell ⟨w2.heap.size, k, none⟩ (.int .u8 ((x.toNat ^^^ turn.toNat : Nat) : Int)) = w5 at *
          generalize parse nb = r at *
          obtain ⟨g, m, c⟩ := r
          obtain ⟨gc, gk, gb⟩ := g
          unfold FV at HPC2
          simp only at HPC2 HPT
          refine HPC2.out.mono ?_
          rintro e w6 ⟨rfl, b6⟩
          have B6 := Lib.hid (bthen B4.out b6)
          clear b6
          rcases HPT.out with hc14 | ⟨hc4, hk8⟩
          · subst hc14
            go_wp2_with fail
            go_ret
            exact ⟨rfl, B6.out.alloc B6.out.size _⟩
          · subst hc4
            have g8 : (k : Int) = (f.body.length : Int) + 9 - 1 := by omega
            have g9 : ((k : Int) == (f.body.length : Int) + 8) = true := by simp; omega
            clear hk8
            go_wp2_with fail
            go_ret
            exact ⟨rfl, B6.out.alloc B6.out.size _⟩
end Go.Proofs.YtopacbmdoognjaaDoor.Frm
