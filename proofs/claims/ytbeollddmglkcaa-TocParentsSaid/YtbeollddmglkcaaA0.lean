/- What the walks share: headings in memory. -/
import Derived.Test.YtbeollddmglkcaaK
import Derived.Test.YtbeollddmglkcaaP1
namespace Go.Proofs.Ytbeollddmglkcaa
open Go.RowKit

structure Hd where
  flow : Int
  pos : Int
  level : Int
  label : ByteArray
  title : ByteArray
def hdC (h : Hd) : List Value := [.int .i64 h.flow, .int .i64 h.pos, .int .i64 h.level, .string h.label, .string h.title]
theorem cell_off (w : World) (a : Addr) (j : Nat) (hj : 0 < j) : w.cell? (a.add j) = w.cell? ⟨a.block, a.off + j, none⟩ := by
  unfold Addr.add
  simp [Nat.ne_of_gt hj]
theorem Sl.hd {w : World} {A : Option Addr} {n : Nat} {xs : List Hd} (h : Sl w 5 hdC A n xs) {k : Nat} (hk : k < n) :
    ∃ ad x, A = some ad ∧ ad.block < w.heap.size ∧ xs[k]? = some x ∧ w.cell? (ad.add (k * 5)) = some (.int .i64 x.flow) ∧ w.cell? ⟨(ad.add (k * 5)).block, (ad.add (k * 5)).off + 1, none⟩ = some (.int .i64 x.pos) ∧ w.cell? ⟨(ad.add (k * 5)).block, (ad.add (k * 5)).off + 2, none⟩ = some (.int .i64 x.level) ∧
      w.cell? ⟨(ad.add (k * 5)).block, (ad.add (k * 5)).off + 3, none⟩ = some (.string x.label) ∧ w.cell? ⟨(ad.add (k * 5)).block, (ad.add (k * 5)).off + 4, none⟩ = some (.string x.title) := by
  obtain ⟨ad, e, hl, x, hx, hc⟩ := h.at_ hk
  have f : ∀ j u, 0 < j → (hdC x)[j]? = some u → w.cell? ⟨(ad.add (k * 5)).block, (ad.add (k * 5)).off + j, none⟩ = some u := fun j u hj hu => by
    rw [← cell_off _ _ _ hj, add_add_]; exact hc j u hu
  exact ⟨ad, x, e, hl, hx, hc 0 _ rfl, f 1 _ (by omega) rfl, f 2 _ (by omega) rfl, f 3 _ (by omega) rfl, f 4 _ (by omega) rfl⟩

def lvs (hs : List Hd) (i : Nat) : Int := (hs[i]?.map (·.level)).getD 0

theorem elemI : Elem Try.prog 40 3 1 8 := Elem.mk Try.underlying40 (z := .int .i64 0) (by kernel_rfl) rfl (by omega)
theorem range_snoc (f : Nat → Int) (k : Nat) : (List.range (k + 1)).map f = (List.range k).map f ++ [f k] := by rw [List.range_succ, List.map_append]; rfl
end Go.Proofs.Ytbeollddmglkcaa
