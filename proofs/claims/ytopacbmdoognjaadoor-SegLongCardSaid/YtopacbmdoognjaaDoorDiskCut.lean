/- Disks, plainly: writes that are cut where a number of bytes is through. No Go in sight. -/
import Derived.Test.YtopacbmdoognjaaDoorPlain
namespace Go.Proofs.YtopacbmdoognjaaDoor.Disk
/-- The writes, as far as a number of bytes goes. -/
def cutws : List Wr → Int → List Wr
  | [], _ => []
  | (k, d) :: ws, cut => (k, d.extract 0 (upto cut d.size)) :: cutws ws (cut - (upto cut d.size : Int))
theorem cutws_append (ws vs : List Wr) : ∀ (cut : Int), cutws (ws ++ vs) cut = cutws ws cut ++ cutws vs (left ws cut) := by
  induction ws with
  | nil => intro cut; rfl
  | cons x ws ih => intro cut; obtain ⟨k, d⟩ := x; simp only [List.cons_append, cutws, left, ih]
theorem cutws_length (ws : List Wr) : ∀ (cut : Int), (cutws ws cut).length = ws.length := by
  induction ws with
  | nil => intro cut; rfl
  | cons x ws ih => intro cut; obtain ⟨k, d⟩ := x; simp only [cutws, List.length_cons, ih]
theorem extract_list (d : ByteArray) (n : Nat) : (d.extract 0 n).data.toList = d.data.toList.take n := by simp
theorem all_cutws (ws : List Wr) : ∀ (s : List UInt8) (cut : Int), all s (cutws ws cut) = done s ws cut := by
  induction ws with
  | nil => intro s cut; rfl
  | cons x ws ih => intro s cut; obtain ⟨k, d⟩ := x; simp only [cutws, all, done, ih, extract_list]
theorem Fits.cutws {n : Nat} (ws : List Wr) : ∀ (cut : Int), Fits n ws → Fits n (cutws ws cut) := by
  induction ws with
  | nil => intro cut h; exact h
  | cons x ws ih =>
    intro cut h
    obtain ⟨k, d⟩ := x
    have h1 := h (k, d) (by simp)
    have h2 := ih (cut - (upto cut d.size : Int)) fun y hy => h y (by simp [hy])
    have h3 := upto_le cut d.size
    simp only at h1
    intro y hy
    simp only [Disk.cutws, List.mem_cons] at hy
    rcases hy with rfl | hy
    · simp only [ByteArray.size_extract]; omega
    · exact h2 y hy
end Go.Proofs.YtopacbmdoognjaaDoor.Disk
