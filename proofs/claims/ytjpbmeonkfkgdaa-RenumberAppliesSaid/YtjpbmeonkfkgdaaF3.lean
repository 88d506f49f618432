/- The scanner in memory: WriteByte, flush, place, digit. -/
import Derived.Test.YtjpbmeonkfkgdaaF1
import Derived.Test.YtjpbmeonkfkgdaaF2
import Derived.Test.YtjpbmeonkfkgdaaC1
import Derived.Deep.RegionHeld3
namespace Go.Proofs.Ytjpbmeonkfkgdaa
open Go.RowKit

def lu (l : List UInt8) : List Int := l.map (fun x => (x.toNat : Int))
theorem lu_len (l : List UInt8) : (lu l).length = l.length := List.length_map ..
theorem lu_snoc (l : List UInt8) (b : UInt8) : lu (l ++ [b]) = lu l ++ [(b.toNat : Int)] := by unfold lu; rw [List.map_append]; rfl
def ptC (p : Pt) : List Value := [.string ⟨p.lit.toArray⟩, .int .i64 p.lev, .bool p.plain]
theorem ptC_len (p : Pt) : (ptC p).length = 3 := rfl
theorem ptC_one (p : Pt) : ∀ u ∈ ptC p, u.oneCell' = true := by intro u hu; simp [ptC] at hu; rcases hu with rfl | rfl | rfl <;> rfl
theorem elemP : Elem Try.prog 88 93 3 32 := Elem.mk Try.underlying88 (z := .agg #[.string ⟨#[]⟩, .int .i64 0, .bool false]) (by kernel_rfl) rfl (by omega)
def scV (s : ByteArray) (at_ : Nat) (sp : Value) (A1 : Option Addr) (n1 c1 : Nat) (A2 : Option Addr) (n2 c2 pl : Nat) (e : Int) : Array Value := #[.string s, .int .i64 at_, sp, .slice A1 n1 c1, .slice A2 n2 c2, .int .i64 pl, .int .i64 e]
structure ScP (w : World) (B g : Nat) (lit : List UInt8) (ps : List Pt) (A1 : Option Addr) (c1 : Nat) (A2 : Option Addr) (c2 : Nat) : Prop where
  hg : B ≤ g
  o1 : Own w B 5 1 byteC A1 lit.length c1 (lu lit)
  o2 : Own w B 93 3 ptC A2 ps.length c2 ps
  n1 : blk A1 ≠ some g
  n2 : blk A2 ≠ some g
  ap : Apart A1 A2
theorem ScP.set {w : World} {B g : Nat} {lit : List UInt8} {ps : List Pt} {A1 A2 : Option Addr} {c1 c2 : Nat} (h : ScP w B g lit ps A1 c1 A2 c2) {w' : World} (hg : w.grownBy w' (some g)) : ScP w' B g lit ps A1 c1 A2 c2 :=
  ⟨h.hg, h.o1.keep hg (fun k hk => by injection hk with hk; rw [← hk]; exact h.n1), h.o2.keep hg (fun k hk => by injection hk with hk; rw [← hk]; exact h.n2), h.n1, h.n2, h.ap⟩
/-- the scanner: text, offset, literal, parts, places, error. -/
def Sc (w : World) (B g : Nat) (s : ByteArray) (at_ : Nat) (lit : List UInt8) (ps : List Pt) (pl : Nat) (e : Int) : Prop :=
  ∃ sp A1 c1 A2 c2, (sp = .pointer none ∨ sp = .pointer (some ⟨g, 2, none⟩)) ∧ Blk w g 103 (scV s at_ sp A1 lit.length c1 A2 ps.length c2 pl e) ∧ ScP w B g lit ps A1 c1 A2 c2
theorem below_of_grown {w w' : World} {B g : Nat} (h : w.grownBy w' (some g)) (hg : B ≤ g) (hB : B ≤ w.heap.size) : Below B w w' := (Below.refl B w).grown h hB (fun k hk => by injection hk with hk; omega)
theorem gset (w : World) (g i : Nat) (v : Value) : w.grownBy (w.setCell ⟨g, i, none⟩ v) (some g) := only_set (⟨rfl, rfl, rfl, Nat.le_refl _, fun _ _ _ => rfl⟩ : w.grownBy w (some g)) i v

theorem copyCheck_any (g : Nat) (s : ByteArray) (at_ n1 c1 n2 c2 pl : Nat) (A1 A2 : Option Addr) (e : Int) (sp : Value) (w : World) (hsp : sp = .pointer none ∨ sp = .pointer (some ⟨g, 2, none⟩)) (hb : Blk w g 103 (scV s at_ sp A1 n1 c1 A2 n2 c2 pl e)) :
    Calls Try.prog 43 #[.pointer (some ⟨g, 2, none⟩)] w fun er w' => er = .returned (.tuple #[]) ∧ Blk w' g 103 (scV s at_ (.pointer (some ⟨g, 2, none⟩)) A1 n1 c1 A2 n2 c2 pl e) ∧ w.grownBy w' (some g) := by
  rcases hsp with rfl | rfl
  · refine (copyCheck_fresh g w (hb.cell 2 rfl) hb.shape (hb.frozen 2)).mono ?_
    rintro er w' ⟨rfl, rfl⟩
    exact ⟨rfl, hb.set_ 2 _, gset _ _ _ _⟩
  · refine (copyCheck_used g w (hb.cell 2 rfl)).mono ?_
    rintro er w' ⟨rfl, rfl⟩
    exact ⟨rfl, hb, ⟨rfl, rfl, rfl, Nat.le_refl _, fun _ _ _ => rfl⟩⟩

set_option maxHeartbeats 2000000 in
set_option maxRecDepth 100000 in
theorem writeByte_any (B g : Nat) (s : ByteArray) (at_ pl : Nat) (lit : List UInt8) (ps : List Pt) (e : Int) (b : UInt8) (w : World) (h : Sc w B g s at_ lit ps pl e) (hl : lit.length ≤ 4096) (hB : B ≤ w.heap.size) :
    Calls Try.prog 37 #[.pointer (some ⟨g, 2, none⟩), .int .u8 (b.toNat : Int)] w fun er w' => er = .returned .nilIface ∧ Sc w' B g s at_ (lit ++ [b]) ps pl e ∧ Below B w w' := by
  obtain ⟨sp, A1, c1, A2, c2, hsp, hb, hp⟩ := h
  have cc := copyCheck_any g s at_ lit.length c1 ps.length c2 pl A1 A2 e sp w hsp hb
  have hb2 : (0 : Int) ≤ (b.toNat : Int) ∧ (b.toNat : Int) ≤ 255 := by have := b.toNat_lt; omega
  have HL := Lib.hid (lu_snoc lit b)
  generalize hn : lit.length = n at *
  have HN := Lib.hid hn
  clear hn hb
  generalize (b.toNat : Int) = c at *
  go_enter Try.func37, Try.ntmps37
  go_upto_region 2 with (go_at_call 43; refine cc.mono ?_; rintro er w1 ⟨rfl, hb1, hg1⟩)
  have hp1 := hp.set hg1
  have k3 : w1.cell? ⟨g, 3, none⟩ = some (.slice A1 n c1) := hb1.cell 3 rfl
  have o1 := hp1.o1
  rw [HN.out] at o1
  have hsz := hg1.size
  have hgl := hb1.lt
  go_wp2_with (at_builtin; refine wpList_push elemB rfl (.tmp 11) (.tmp 13) rfl rfl _ rfl (o1.alloc _) c _ rfl (by simp) (byteC_one _) rfl (by unfold maxLen; omega) (Nat.le_trans hB (by simp; omega)) ?_; intro A5 c5 w5 ho5 hg5 ha5; have hb5 := (hb1.alloc _).keep hg5 (fun e => hp.n1 e); have f5 := hb5.frozen 3; have u5 : w5.cell? ⟨g, 3, none⟩ = some (.slice A1 n c1) := hb5.cell 3 rfl)
  go_ret
  have hb6 := hb5.set_ 3 (.slice A5 (n + 1) c5)
  have o2 := ((hp1.o2.alloc _).keep hg5 (fun k hk hk2 => hp.ap k hk hk2))
  have hn5 : blk A5 ≠ some g := by
    rcases ha5 with h | h
    · rw [h]; exact hp.n1
    · rw [h]; intro e; injection e with e; simp at e; omega
  have hap : Apart A5 A2 := fun k hk hk2 => by
    rcases ha5 with h | h
    · exact hp.ap k (by rw [← h]; exact hk) hk2
    · rw [h] at hk
      injection hk with hk
      have := (hp1.o2.lt k hk2).2
      simp at hk
      omega
  refine ⟨rfl, ⟨_, A5, c5, A2, c2, .inr rfl, ?_, ⟨hp.hg, ?_, o2.keep (gset _ g _ _) (fun k hk => by injection hk with hk; rw [← hk]; exact hp.n2), hn5, hp.n2, hap⟩⟩, ?_⟩
  · rw [List.length_append, HN.out]
    exact hb6
  · rw [HL.out, List.length_append, HN.out]
    exact ho5.keep (gset _ g _ _) (fun k hk => by injection hk with hk; rw [← hk]; exact hn5)
  · have h1 := below_of_grown hg1 hp.hg hB
    have h2 := (h1.alloc (Nat.le_trans hB hsz) (.cells #[.int .u8 c] 5)).grown hg5 (Nat.le_trans hB (by simp; omega)) (fun k hk => (hp1.o1.lt k hk).1)
    exact h2.setCell (p := ⟨g, 3, none⟩) hp.hg _
end Go.Proofs.Ytjpbmeonkfkgdaa
