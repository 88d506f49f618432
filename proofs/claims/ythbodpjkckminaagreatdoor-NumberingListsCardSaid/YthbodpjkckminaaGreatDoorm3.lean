/- A strings.Builder that is a field of the scanner. Templates, plain: the scanner's parts. The scanner in memory: WriteByte, flush, place, digit. The scanner: flush, place, digit. The scanner: place, digit. The scanner: percent. -/
import Derived.Test.YthbodpjkckminaaGreatDoorm1
import Derived.Test.YthbodpjkckminaaGreatDoorm2
import Derived.Test.YthbodpjkckminaaGreatDoorShelf
import Derived.Lib.Builder
import Derived.Lib.UnsafeStr
import Derived.Lib.Hide
import Derived.RegionTactic
import Derived.Deep.RegionHeld3
import Derived.Deep.AppendLies
import Derived.Deep.RegionLaw
import Derived.Deep.QuietTactic
import Derived.BigQuiet
namespace Go.Proofs.YthbodpjkckminaaGreatDoor
open Go.RowKit

theorem sizeBuilder : (Tryz.prog.info? 195).map (·.size) = some 2 := by kernel_rfl
theorem liesBuilder : liesAt Tryz.prog Tryz.prog.depth 197 (7 / Tryz.prog.cellsOf 197) 2 195 1 = true := by kernel_rfl
theorem elemB : Elem Tryz.prog 190 5 1 1 := Elem.mk Tryz.underlying190 (z := .int .u8 0) (by kernel_rfl) rfl (by omega)
theorem Blk.shape {w : World} {g : Nat} {t : TypeId} {cs : Array Value} (h : Blk w g t cs) : w.shape? g = some (t, cs.size) := by
  unfold Blk at h
  simp [World.shape?, h]

set_option maxRecDepth 100000 in
theorem copyCheck_fresh (g : Nat) (w : World) (h0 : w.cell? ⟨g, 2, none⟩ = some (.pointer none)) (hsh : w.shape? g = some (197, 7)) (hfz : w.frozen? ⟨g, 2, none⟩ = false) :
    Calls Tryz.prog 152 #[.pointer (some ⟨g, 2, none⟩)] w fun e w' => e = .returned (.tuple #[]) ∧ w' = w.setCell ⟨g, 2, none⟩ (.pointer (some ⟨g, 2, none⟩)) := by
  obtain ⟨j, hj, hjs⟩ := Option.map_eq_some_iff.1 sizeBuilder
  go_enter Tryz.func152, Tryz.ntmps152
  go_wp2
  rw [Lib.run_to_unsafe w ⟨g, 2, none⟩ Tryz.underlying193 Tryz.underlying297 hj (by rw [hjs]; decide) hsh (by show 2 < 7; omega)]
  simp only [Result.andThen]
  rw [Oper.upon_value]
  go_wp2
  rw [run_callFunc_extern Tryz.func179 (by kernel_rfl) (by kernel_rfl) (by kernel_rfl) (e := Extern.AbiNoEscape.same) (by kernel_rfl)]
  rw [Lib.run_noEscape]
  simp only [Result.andThen]
  rw [Oper.upon_value]
  go_wp2
  rw [Lib.run_from_unsafe w ⟨g, 2, none⟩ Tryz.underlying297 Tryz.underlying193 hj hsh liesBuilder]
  simp only [Result.andThen]
  rw [Oper.upon_value]
  go_wp2
  go_end0
  exact ⟨rfl, rfl⟩

set_option maxRecDepth 100000 in
theorem copyCheck_used (g : Nat) (w : World) (h0 : w.cell? ⟨g, 2, none⟩ = some (.pointer (some ⟨g, 2, none⟩))) :
    Calls Tryz.prog 152 #[.pointer (some ⟨g, 2, none⟩)] w fun e w' => e = .returned (.tuple #[]) ∧ w' = w := by
  obtain ⟨j, hj, _⟩ := Option.map_eq_some_iff.1 sizeBuilder
  go_enter Tryz.func152, Tryz.ntmps152
  go_wp2
  rw [Lib.run_neq_ptr_same w _ Tryz.underlying193 hj]
  go_wp2
  go_end0
  exact ⟨rfl, rfl⟩

theorem blen_any (g n c : Nat) (A : Option Addr) (w : World) (h : w.cell? ⟨g, 3, none⟩ = some (.slice A n c)) :
    Calls Tryz.prog 166 #[.pointer (some ⟨g, 2, none⟩)] w fun e w' => e = .returned (.int .i64 n) ∧ w' = w := by
  go_enter Tryz.func166, Tryz.ntmps166
  go_wp2_with fail
  go_ret
  exact ⟨rfl, rfl⟩
theorem breset_any (g : Nat) (V0 V1 : Value) (w : World) (h0 : w.cell? ⟨g, 2, none⟩ = some V0) (h1 : w.cell? ⟨g, 3, none⟩ = some V1) (f0 : w.frozen? ⟨g, 2, none⟩ = false) (f1 : w.frozen? ⟨g, 3, none⟩ = false) :
    Calls Tryz.prog 167 #[.pointer (some ⟨g, 2, none⟩)] w fun e w' => e = .returned (.tuple #[]) ∧ w' = (w.setCell ⟨g, 2, none⟩ (.pointer none)).setCell ⟨g, 3, none⟩ (.slice none 0 0) := by
  have h3 : (w.setCell ⟨g, 2, none⟩ (.pointer none)).cell? ⟨g, 3, none⟩ = some V1 := (World.cell?_setCell_other w ⟨g, 2, none⟩ ⟨g, 3, none⟩ _ (by simp)).trans h1
  go_enter Tryz.func167, Tryz.ntmps167
  go_wp2_with fail
  go_end0
  exact ⟨rfl, rfl⟩
theorem grown_freeze (w : World) (ga k : Nat) : w.grownBy (w.drew.freeze ⟨ga, 0, none⟩ k) (some ga) := by
  by_cases hk : k = 0
  · subst hk
    exact ⟨rfl, rfl, rfl, Nat.le_refl _, fun _ _ _ => rfl⟩
  · refine ⟨?_, ?_, ?_, ?_, fun b hb hne => ?_⟩
    · simp [World.freeze, hk]; try rfl
    · simp [World.freeze, hk]; try rfl
    · simp [World.freeze, hk]; try rfl
    · simp [World.freeze, hk]; try exact Nat.le_refl _
    · simp only [World.freeze, hk, if_false, Array.getElem?_modify]
      rw [if_neg (fun e => hne (by rw [e]))]
      rfl
set_option maxHeartbeats 2000000 in
set_option maxRecDepth 100000 in
theorem bstring_any (g B n c : Nat) (A : Option Addr) (l : List UInt8) (w : World) (h : w.cell? ⟨g, 3, none⟩ = some (.slice A n c)) (ho : Own w B 5 1 byteC A n c (l.map (fun x => (x.toNat : Int)))) (hl : l ≠ []) :
    Calls Tryz.prog 123 #[.pointer (some ⟨g, 2, none⟩)] w fun e w' => ∃ ga, A = some ⟨ga, 0, none⟩ ∧ B ≤ ga ∧ e = .returned (.string ⟨l.toArray⟩) ∧ w.grownBy w' (some ga) := by
  have hln : l.length = n := by have := ho.len; rw [List.length_map] at this; exact this
  have hl0 : 0 < n := by rw [← hln]; exact List.length_pos_iff.2 hl
  obtain ⟨ga, cap, cur, hv, hB, hg, hnc, hcm, hcs, htk⟩ : ∃ ga cap cur, Value.slice A n c = .slice (some ⟨ga, 0, none⟩) n cap ∧ B ≤ ga ∧ w.heap[ga]? = some (.cells cur 5 (0, 0)) ∧ n ≤ cap ∧ cap ≤ maxLen ∧ cur.size = cap * 1 ∧ cur.toList.take (n * 1) = (l.map (fun x => (x.toNat : Int))).flatMap byteC := by
    rcases ho.row.2 with ⟨hv, hn⟩ | ⟨ga, cap, cur, hv, r⟩
    · omega
    · refine ⟨ga, cap, cur, hv, r.1, r.2.1, r.2.2.1, r.2.2.2.1, r.2.2.2.2.1, ?_⟩
      exact r.2.2.2.2.2
  injection hv with hA _ hc
  subst hA
  subst hc
  have hsd : (Builtin.unsafeSliceData_ #[190] 269 #[.slice (some ⟨ga, 0, none⟩) n c]).run Tryz.prog w.drew = .ok (.pointer (some ⟨ga, 0, none⟩)) w.drew := Lib.run_unsafeSliceData_row _ _ _ _ _ _ (by omega)
  have hus : (Builtin.unsafeString_ #[269, 3] 9 #[.pointer (some ⟨ga, 0, none⟩), .int .i64 n]).run Tryz.prog w.drew = .ok (.string ⟨l.toArray⟩) (w.drew.freeze ⟨ga, 0, none⟩ n) := by
    rw [← hln]
    refine Lib.run_unsafeString_row w.drew 269 3 9 5 Tryz.underlying269 (by kernel_rfl) ga cur.size (by have hg' : w.drew.heap[ga]? = some (.cells cur 5 (0, 0)) := hg; simp [World.shape?, hg']) l hl (by omega) (by unfold maxLen at hcm; omega) ?_
    intro j x hx
    have hx2 : (l.map (fun x => (x.toNat : Int)))[j]? = some (x.toNat : Int) := by rw [List.getElem?_map, hx]; rfl
    obtain ⟨ad, e, _, hc9⟩ := (ho.sl byteC_len).rd hl0
    injection e with e
    subst e
    have := hc9 j _ hx2 0 _ rfl
    rw [Nat.mul_one, Nat.add_zero] at this
    exact this
  go_enter Tryz.func123, Tryz.ntmps123
  go_wp2
  have h9 : w.drew.cell? ⟨g, 3, none⟩ = some (.slice (some ⟨ga, 0, none⟩) n c) := h
  go_region
  all_goals (go_wp2; go_ret; exact ⟨ga, rfl, hB, rfl, grown_freeze w ga n⟩)
end Go.Proofs.YthbodpjkckminaaGreatDoor

namespace Go.Proofs.YthbodpjkckminaaGreatDoor

structure Pt where
  lit : List UInt8
  lev : Int
  plain : Bool
  deriving DecidableEq
def flushP (lit : List UInt8) (ps : List Pt) : List Pt := if lit = [] then ps else ps ++ [⟨lit, 0, false⟩]
def digB (c : UInt8) : Bool := decide (49 ≤ (c.toNat : Int)) && decide ((c.toNat : Int) ≤ 57)
def placeP (lit : List UInt8) (ps : List Pt) (c : UInt8) (pl : Bool) : List Pt := flushP lit ps ++ [⟨[], (c.toNat : Int) - 48, pl⟩]
/-- the scan from a rest on: the literal, the parts, the places, the error. -/
def scanP : Nat → List UInt8 → List UInt8 → List Pt → Nat → List UInt8 × List Pt × Nat × Int
  | 0, _, lit, ps, pl => (lit, ps, pl, 0)
  | _ + 1, [], lit, ps, pl => (lit, ps, pl, 0)
  | f + 1, c :: r, lit, ps, pl =>
    if c = 37 then
      match r with
      | [] => (lit, ps, pl, 14)
      | d :: r2 =>
        if d = 37 then scanP f r2 (lit ++ [37]) ps pl
        else if digB d = true then scanP f r2 [] (placeP lit ps d false) (pl + 1)
        else if d = 100 then
          match r2 with
          | [] => (lit, ps, pl, 14)
          | k :: r3 => if digB k = true then scanP f r3 [] (placeP lit ps k true) (pl + 1) else (lit, ps, pl, 14)
        else (lit, ps, pl, 14)
    else scanP f r (lit ++ [c]) ps pl
def scanR (l : List UInt8) : List Pt × Int :=
  let x := scanP (l.length + 1) l [] [] 0
  (flushP x.1 x.2.1, if x.2.2.2 = 0 ∧ 9 < x.2.2.1 then 9 else x.2.2.2)
def ctlB (c : UInt8) : Bool := decide ((c.toNat : Int) < 32) || decide ((c.toNat : Int) = 127)
/-- what Parse returns. -/
def parseE (s : ByteArray) : Int :=
  if 64 < s.size then 10 else if (ptsO (byts s)).isSome = false then 12 else if s.data.toList.any ctlB = true then 5 else (scanR s.data.toList).2
def parseP (s : ByteArray) : List Pt := if parseE s = 0 then (scanR s.data.toList).1 else []
/-- what Check returns. -/
def checkE (s : ByteArray) (level : Int) : Int :=
  if level < 1 ∨ 9 < level then 2 else if parseE s = 0 ∧ (parseP s).any (fun p => decide (level < p.lev)) = true then 6 else parseE s
theorem scanP_fuel : ∀ (f f' : Nat) (l : List UInt8) (lit : List UInt8) (ps : List Pt) (pl : Nat), l.length < f → l.length < f' → scanP f l lit ps pl = scanP f' l lit ps pl
  | 0, _, _, _, _, _, h, _ => absurd h (Nat.not_lt_zero _)
  | _, 0, _, _, _, _, _, h => absurd h (Nat.not_lt_zero _)
  | f + 1, f' + 1, [], lit, ps, pl, _, _ => rfl
  | f + 1, f' + 1, c :: r, lit, ps, pl, h, h' => by
    have h1 : r.length < f := by simp only [List.length_cons] at h; omega
    have h2 : r.length < f' := by simp only [List.length_cons] at h'; omega
    unfold scanP
    by_cases hc : c = 37
    · rw [if_pos hc, if_pos hc]
      match r, h1, h2 with
      | [], _, _ => rfl
      | d :: r2, h1, h2 =>
        have h3 : r2.length < f := by simp only [List.length_cons] at h1; omega
        have h4 : r2.length < f' := by simp only [List.length_cons] at h2; omega
        simp only
        by_cases hd : d = 37
        · rw [if_pos hd, if_pos hd]
          exact scanP_fuel f f' r2 _ _ _ h3 h4
        · rw [if_neg hd, if_neg hd]
          by_cases hg : digB d = true
          · rw [if_pos hg, if_pos hg]
            exact scanP_fuel f f' r2 _ _ _ h3 h4
          · rw [if_neg hg, if_neg hg]
            by_cases h100 : d = 100
            · rw [if_pos h100, if_pos h100]
              match r2, h3, h4 with
              | [], _, _ => rfl
              | k :: r3, h3, h4 =>
                simp only
                by_cases hk : digB k = true
                · rw [if_pos hk, if_pos hk]
                  exact scanP_fuel f f' r3 _ _ _ (by simp only [List.length_cons] at h3; omega) (by simp only [List.length_cons] at h4; omega)
                · rw [if_neg hk, if_neg hk]
            · rw [if_neg h100, if_neg h100]
    · rw [if_neg hc, if_neg hc]
      exact scanP_fuel f f' r _ _ _ h1 h2
theorem t1 : checkE ⟨#[37, 49]⟩ 1 = 0 := by decide +kernel
theorem t2 : checkE ⟨#[37, 49, 46]⟩ 1 = 0 := by decide +kernel
theorem t3 : checkE ⟨#[37, 49, 46, 37, 50]⟩ 2 = 0 := by decide +kernel
end Go.Proofs.YthbodpjkckminaaGreatDoor

namespace Go.Proofs.YthbodpjkckminaaGreatDoor
open Go.RowKit

def lu (l : List UInt8) : List Int := l.map (fun x => (x.toNat : Int))
theorem lu_len (l : List UInt8) : (lu l).length = l.length := List.length_map ..
theorem lu_snoc (l : List UInt8) (b : UInt8) : lu (l ++ [b]) = lu l ++ [(b.toNat : Int)] := by unfold lu; rw [List.map_append]; rfl
def ptC (p : Pt) : List Value := [.string ⟨p.lit.toArray⟩, .int .i64 p.lev, .bool p.plain]
theorem ptC_len (p : Pt) : (ptC p).length = 3 := rfl
theorem ptC_one (p : Pt) : ∀ u ∈ ptC p, u.oneCell' = true := by intro u hu; simp [ptC] at hu; rcases hu with rfl | rfl | rfl <;> rfl
theorem elemP : Elem Tryz.prog 131 136 3 32 := Elem.mk Tryz.underlying131 (z := .agg #[.string ⟨#[]⟩, .int .i64 0, .bool false]) (by kernel_rfl) rfl (by omega)
def scV (s : ByteArray) (at_ : Nat) (sp : Value) (A1 : Option Addr) (n1 c1 : Nat) (A2 : Option Addr) (n2 c2 pl : Nat) (e : Int) : Array Value := #[.string s, .int .i64 at_, sp, .slice A1 n1 c1, .slice A2 n2 c2, .int .i64 pl, .int .i64 e]
structure ScP (w : World) (B g : Nat) (lit : List UInt8) (ps : List Pt) (A1 : Option Addr) (c1 : Nat) (A2 : Option Addr) (c2 : Nat) : Prop where
  hg : B ≤ g
  o1 : Own w B 5 1 byteC A1 lit.length c1 (lu lit)
  o2 : Own w B 136 3 ptC A2 ps.length c2 ps
  n1 : blk A1 ≠ some g
  n2 : blk A2 ≠ some g
  ap : Apart A1 A2
theorem ScP.set {w : World} {B g : Nat} {lit : List UInt8} {ps : List Pt} {A1 A2 : Option Addr} {c1 c2 : Nat} (h : ScP w B g lit ps A1 c1 A2 c2) {w' : World} (hg : w.grownBy w' (some g)) : ScP w' B g lit ps A1 c1 A2 c2 :=
  ⟨h.hg, h.o1.keep hg (fun k hk => by injection hk with hk; rw [← hk]; exact h.n1), h.o2.keep hg (fun k hk => by injection hk with hk; rw [← hk]; exact h.n2), h.n1, h.n2, h.ap⟩
/-- the scanner: text, offset, literal, parts, places, error. -/
def Sc (w : World) (B g : Nat) (s : ByteArray) (at_ : Nat) (lit : List UInt8) (ps : List Pt) (pl : Nat) (e : Int) : Prop :=
  ∃ sp A1 c1 A2 c2, (sp = .pointer none ∨ sp = .pointer (some ⟨g, 2, none⟩)) ∧ Blk w g 197 (scV s at_ sp A1 lit.length c1 A2 ps.length c2 pl e) ∧ ScP w B g lit ps A1 c1 A2 c2
theorem below_of_grown {w w' : World} {B g : Nat} (h : w.grownBy w' (some g)) (hg : B ≤ g) (hB : B ≤ w.heap.size) : Below B w w' := (Below.refl B w).grown h hB (fun k hk => by injection hk with hk; omega)
theorem gset (w : World) (g i : Nat) (v : Value) : w.grownBy (w.setCell ⟨g, i, none⟩ v) (some g) := only_set (⟨rfl, rfl, rfl, Nat.le_refl _, fun _ _ _ => rfl⟩ : w.grownBy w (some g)) i v

theorem copyCheck_any (g : Nat) (s : ByteArray) (at_ n1 c1 n2 c2 pl : Nat) (A1 A2 : Option Addr) (e : Int) (sp : Value) (w : World) (hsp : sp = .pointer none ∨ sp = .pointer (some ⟨g, 2, none⟩)) (hb : Blk w g 197 (scV s at_ sp A1 n1 c1 A2 n2 c2 pl e)) :
    Calls Tryz.prog 152 #[.pointer (some ⟨g, 2, none⟩)] w fun er w' => er = .returned (.tuple #[]) ∧ Blk w' g 197 (scV s at_ (.pointer (some ⟨g, 2, none⟩)) A1 n1 c1 A2 n2 c2 pl e) ∧ w.grownBy w' (some g) := by
  rcases hsp with rfl | rfl
  · refine (copyCheck_fresh g w (hb.cell 2 rfl) hb.shape (hb.frozen 2)).mono ?_
    rintro er w' ⟨rfl, rfl⟩
    exact ⟨rfl, hb.set_ 2 _, gset _ _ _ _⟩
  · refine (copyCheck_used g w (hb.cell 2 rfl)).mono ?_
    rintro er w' ⟨rfl, rfl⟩
    exact ⟨rfl, hb, ⟨rfl, rfl, rfl, Nat.le_refl _, fun _ _ _ => rfl⟩⟩

set_option maxHeartbeats 2000000 in
set_option maxRecDepth 100000 in
theorem writeByte_any (B g : Nat) (s : ByteArray) (at_ pl : Nat) (lit : List UInt8) (ps : List Pt) (e : Int) (b : UInt8) (w : World) (h : Sc w B g s at_ lit ps pl e) (hl : lit.length ≤ 4096) (hB : B ≤ w.heap.size) :
    Calls Tryz.prog 132 #[.pointer (some ⟨g, 2, none⟩), .int .u8 (b.toNat : Int)] w fun er w' => er = .returned .nilIface ∧ Sc w' B g s at_ (lit ++ [b]) ps pl e ∧ Below B w w' := by
  obtain ⟨sp, A1, c1, A2, c2, hsp, hb, hp⟩ := h
  have cc := copyCheck_any g s at_ lit.length c1 ps.length c2 pl A1 A2 e sp w hsp hb
  have hb2 : (0 : Int) ≤ (b.toNat : Int) ∧ (b.toNat : Int) ≤ 255 := by have := b.toNat_lt; omega
  have HL := Lib.hid (lu_snoc lit b)
  generalize hn : lit.length = n at *
  have HN := Lib.hid hn
  clear hn hb
  generalize (b.toNat : Int) = c at *
  go_enter Tryz.func132, Tryz.ntmps132
  go_upto_region 2 with (go_at_call 152; refine cc.mono ?_; rintro er w1 ⟨rfl, hb1, hg1⟩)
  have hp1 := hp.set hg1
  have k3 : w1.cell? ⟨g, 3, none⟩ = some (.slice A1 n c1) := hb1.cell 3 rfl
  have o1 := hp1.o1
  rw [HN.out] at o1
  have hsz := hg1.size
  have hgl := hb1.lt
  go_wp2_with (at_builtin; refine wpList_push elemB rfl (.tmp 11) (.tmp 13) rfl rfl _ rfl (o1.alloc _) c _ rfl (by simp) (byteC_one _) rfl (by unfold maxLen; omega) (Nat.le_trans hB (by simp; omega)) ?_; intro A5 c5 w5 ho5 hg5 ha5; have hb5 := (hb1.alloc _).keep hg5 (fun e => hp.n1 e); have f5 := hb5.frozen 3; have u5 : w5.cell? ⟨g, 3, none⟩ = some (.slice A1 n c1) := hb5.cell 3 rfl)
  go_ret
  have hb6 := hb5.set_ 3 (.slice A5 (n + 1) c5)
  have o2 := ((hp1.o2.alloc _).keep hg5 (fun k hk hk2 => hp.ap k hk hk2))
  have hn5 : blk A5 ≠ some g := by
    rcases ha5 with h | h
    · rw [h]; exact hp.n1
    · rw [h]; intro e; injection e with e; simp at e; omega
  have hap : Apart A5 A2 := fun k hk hk2 => by
    rcases ha5 with h | h
    · exact hp.ap k (by rw [← h]; exact hk) hk2
    · rw [h] at hk
      injection hk with hk
      have := (hp1.o2.lt k hk2).2
      simp at hk
      omega
  refine ⟨rfl, ⟨_, A5, c5, A2, c2, .inr rfl, ?_, ⟨hp.hg, ?_, o2.keep (gset _ g _ _) (fun k hk => by injection hk with hk; rw [← hk]; exact hp.n2), hn5, hp.n2, hap⟩⟩, ?_⟩
  · rw [List.length_append, HN.out]
    exact hb6
  · rw [HL.out, List.length_append, HN.out]
    exact ho5.keep (gset _ g _ _) (fun k hk => by injection hk with hk; rw [← hk]; exact hn5)
  · have h1 := below_of_grown hg1 hp.hg hB
    have h2 := (h1.alloc (Nat.le_trans hB hsz) (.cells #[.int .u8 c] 5)).grown hg5 (Nat.le_trans hB (by simp; omega)) (fun k hk => (hp1.o1.lt k hk).1)
    exact h2.setCell (p := ⟨g, 3, none⟩) hp.hg _
end Go.Proofs.YthbodpjkckminaaGreatDoor

namespace Go.Proofs.YthbodpjkckminaaGreatDoor
open Go.RowKit

theorem cell_grown {w w' : World} {g : Nat} {p : Addr} {u : Value} (hg : w.grownBy w' (some g)) (hp : p.block ≠ g) (h : w.cell? p = some u) : w'.cell? p = some u :=
  (World.cell?_of_block (hg.block _ (World.block_lt_of_cell? _ _ h) (by intro e; injection e with e; exact hp e))).trans h
theorem keep1 {w w' : World} {p0 : Addr} {v0 : Value} (hb : Below w.heap.size w w') (h : w.cell? p0 = some v0) : w'.cell? p0 = some v0 := (hb.cell (World.block_lt_of_cell? _ _ h)).trans h
/-- append of one element that lies in a block just made, as a step of a region. -/
theorem step_push {α : Type} {P : Program} {t e : TypeId} {s b : Nat} {enc : α → List Value} (T : Elem P t e s b) {ops : Array Oper} {o : Oper} {a : Act} {w : World} {K : Act → World → Prop} {Q : Exit → Act → World → Prop} {E : Prop}
    {A : Option Addr} {n c B : Nat} {xs : List α} (hgd : o.guard = none) (sx ox : Operand) (ho : o.op = .call { callee := .builtin .append, args := #[sx, ox], argTypes := #[t, t] })
    (hs : a.eval sx = .slice A n c) (ad : Addr) (hx : a.eval ox = .slice (some ad) 1 1) (hown : Own w B e s enc A n c xs) (x : α) (hcell : ∀ j u, (enc x)[j]? = some u → w.cell? (ad.add j) = some u) (h1 : ∀ u ∈ enc x, u.oneCell' = true) (hl : (enc x).length = s)
    (hn : (n + 1) * b ≤ 140737488355328 ∧ n + 1 ≤ maxLen) (hB : B ≤ w.heap.size)
    (h : ∀ g c' w', Own w' B e s enc (some ⟨g, 0, none⟩) (n + 1) c' (xs ++ [x]) → w.grownBy w' (blk A) → (blk A = some g ∨ g = w.heap.size) → K (a.put o.dst (.slice (some ⟨g, 0, none⟩) (n + 1) c')) w') :
    if Region.wanted o (yielded ops a.tmps) = true then Oper.wp P o a w K Q else E := by
  obtain ⟨ht, i, z, hi, hz, hsz, hb, hzs, hs0⟩ := T
  refine step_append_lies w hgd sx ox t ho B e i z s b ht hi hz hsz hb hzs hs0 (.slice A n c) n (xs.flatMap enc) hs hown.row ad 1 1 (enc x) hx (by omega) hcell h1 (by omega) hn.2 hn.1 hB _ rfl ?_
  intro g cap w' hown' hg hat hlt
  rw [blk_own] at hg hat
  exact h g cap w' ⟨by rw [List.length_append, hown.len]; rfl, by rw [List.flatMap_append]; simpa using hown'⟩ hg hat

set_option maxHeartbeats 2000000 in
set_option maxRecDepth 100000 in
theorem flush_any (B g : Nat) (s : ByteArray) (at_ pl : Nat) (lit : List UInt8) (ps : List Pt) (e : Int) (w : World) (h : Sc w B g s at_ lit ps pl e) (hl : lit.length ≤ 4096 ∧ ps.length ≤ 4096) (hB : B ≤ w.heap.size) :
    Calls Tryz.prog 133 #[.pointer (some ⟨g, 0, none⟩)] w fun er w' => er = .returned (.tuple #[]) ∧ Sc w' B g s at_ [] (flushP lit ps) pl e ∧ Below B w w' := by
  obtain ⟨sp, A1, c1, A2, c2, hsp, hb, hp⟩ := h
  have hlen := blen_any g lit.length c1 A1 w (hb.cell 3 rfl)
  by_cases h0 : lit = []
  · subst h0
    have e0 : flushP [] ps = ps := if_pos rfl
    rw [e0]
    have HB := Lib.hid hb
    clear hb
    go_enter Tryz.func133, Tryz.ntmps133
    go_wp2_with (go_at_call 166; refine hlen.mono ?_; rintro er w1 ⟨rfl, rfl⟩)
    go_end0
    exact ⟨rfl, ⟨sp, A1, c1, A2, c2, hsp, HB.out, hp⟩, Below.refl _ _⟩
  · have e0 : flushP lit ps = ps ++ [⟨lit, 0, false⟩] := if_neg h0
    have HE := Lib.hid e0
    have hpos : decide (0 < lit.length) = true := decide_eq_true (List.length_pos_iff.2 h0)
    have k4 : w.cell? ⟨g, 4, none⟩ = some (.slice A2 ps.length c2) := hb.cell 4 rfl
    have k3 : w.cell? ⟨g, 3, none⟩ = some (.slice A1 lit.length c1) := hb.cell 3 rfl
    have hstr := bstring_any g B lit.length c1 A1 lit (w.drewN 1) k3 (hp.o1.drewN 1) h0
    have hl2 := hl.2
    have hgl := hb.lt
    clear e0
    go_enter Tryz.func133, Tryz.ntmps133
    go_upto_region 1 with (go_at_call 166; refine hlen.mono ?_; rintro er w1 ⟨rfl, rfl⟩)
    go_region_law
      (first
        | (go_simp; go_at_call 123; refine hstr.mono ?_; rintro er wS ⟨ga, hga, hBa, rfl, hgs⟩; have hne9 : ga ≠ g := (by have := hp.n1; rw [hga] at this; intro e; exact this (by rw [e]; rfl)); have s9 : wS.cell? ⟨g, 4, none⟩ = some (.slice A2 ps.length c2) := cell_grown hgs (fun e => hne9 e.symm) k4; have r9 : wS.cell? ⟨g, 3, none⟩ = some (.slice A1 lit.length c1) := cell_grown hgs (fun e => hne9 e.symm) k3; have bS := (hb.drewN 1).keep hgs (fun e => by injection e with e; exact hne9 e); have s8 : (wS.alloc (.cells #[.string ⟨lit.toArray⟩, .int .i64 0, .bool false] 136)).cell? ⟨g, 4, none⟩ = some (.slice A2 ps.length c2) := (bS.alloc _).cell 4 rfl; have oS := (hp.o2.drewN 1).keep hgs (fun k hk hk2 => by injection hk with hk; exact hp.ap ga (by rw [hga]; rfl) (by rw [hk]; exact hk2)))
        | (refine step_push elemP (by rfl) (.tmp 11) (.tmp 17) (by rfl) (by rfl) ⟨wS.heap.size, 0, none⟩ (by rfl) (oS.alloc _) (⟨lit, 0, false⟩ : Pt) (fun j u hu => World.news_of_block (cs := (ptC ⟨lit, 0, false⟩).toArray) (t := 136) (fr := (0, 0)) (heap_alloc_new wS _) j u (by simpa using hu)) (ptC_one _) (ptC_len _) (by unfold maxLen; omega) (by have := hgs.size; simp at this ⊢; omega) ?_; intro g5 c5 w5 ho5 hg5 ha5; have b5 := (bS.alloc (.cells (ptC ⟨lit, 0, false⟩).toArray 136)).keep hg5 hp.n2; have s9 : w5.cell? ⟨g, 4, none⟩ = some (.slice A2 ps.length c2) := b5.cell 4 rfl; have r9 : w5.cell? ⟨g, 3, none⟩ = some (.slice A1 lit.length c1) := b5.cell 3 rfl; have f9 := b5.frozen 4))
    all_goals
      have b6 := b5.set_ 4 (.slice (some ⟨g5, 0, none⟩) (ps.length + 1) c5)
      have u2 : (w5.setCell ⟨g, 4, none⟩ (.slice (some ⟨g5, 0, none⟩) (ps.length + 1) c5)).cell? ⟨g, 2, none⟩ = some sp := b6.cell 2 rfl
      have u3 : (w5.setCell ⟨g, 4, none⟩ (.slice (some ⟨g5, 0, none⟩) (ps.length + 1) c5)).cell? ⟨g, 3, none⟩ = some (.slice A1 lit.length c1) := b6.cell 3 rfl
      have kr := breset_any g _ _ _ u2 u3 (b6.frozen 2) (b6.frozen 3)
      go_wp2_with (go_at_call 167; refine kr.mono ?_; rintro er w7 ⟨rfl, rfl⟩)
      go_end0
      have hn5 : blk (some (⟨g5, 0, none⟩ : Addr)) ≠ some g := by
        rcases ha5 with h | h
        · exact fun e2 => hp.n2 (h.trans e2)
        · intro e2; injection e2 with e2; have := bS.lt; simp at h e2; omega
      have k9 := (gset w5 g 4 (.slice (some ⟨g5, 0, none⟩) (ps.length + 1) c5)).trans ((gset _ g 2 (.pointer none)).trans (gset _ g 3 (.slice none 0 0)))
      have hsz := hgs.size
      refine ⟨rfl, ⟨.pointer none, none, 0, some ⟨g5, 0, none⟩, c5, .inl rfl, ?_, ⟨hp.hg, Own.nil_ _ _ _ _ _, ?_, by simp [blk], hn5, Apart.none_l⟩⟩, ?_⟩
      · rw [HE.out, List.length_append]
        exact (b6.set_ 2 _).set_ 3 _
      · rw [HE.out, List.length_append]
        exact ho5.keep k9 (fun k hk => by injection hk with hk; rw [← hk]; exact hn5)
      · have h1 := (below_drewN (Below.refl B w1) 1).grown hgs hB (fun k hk => by injection hk with hk; omega)
        have h2 := (h1.alloc (Nat.le_trans hB hsz) (.cells (ptC ⟨lit, 0, false⟩).toArray 136)).grown hg5 (Nat.le_trans hB (by simp at hsz ⊢; omega)) (fun k hk => (oS.lt k hk).1)
        exact ((h2.setCell (p := ⟨g, 4, none⟩) hp.hg _).setCell (p := ⟨g, 2, none⟩) hp.hg _).setCell (p := ⟨g, 3, none⟩) hp.hg _
end Go.Proofs.YthbodpjkckminaaGreatDoor

namespace Go.Proofs.YthbodpjkckminaaGreatDoor
open Go.RowKit

set_option maxHeartbeats 2000000 in
set_option maxRecDepth 100000 in
theorem place_any (B g : Nat) (s : ByteArray) (at_ pl : Nat) (lit : List UInt8) (ps : List Pt) (e : Int) (d : UInt8) (b : Bool) (w : World) (h : Sc w B g s at_ lit ps pl e) (hl : lit.length ≤ 4096 ∧ ps.length ≤ 4000) (hpl : pl ≤ 4096) (hB : B ≤ w.heap.size) (hd : digB d = true) :
    Calls Tryz.prog 165 #[.pointer (some ⟨g, 0, none⟩), .int .u8 (d.toNat : Int), .bool b] w fun er w' => er = .returned (.tuple #[]) ∧ Sc w' B g s at_ [] (placeP lit ps d b) (pl + 1) e ∧ Below B w w' := by
  have cf := flush_any B g s at_ pl lit ps e w h ⟨hl.1, by omega⟩ hB
  have hfl : (flushP lit ps).length ≤ ps.length + 1 := by
    unfold flushP
    split
    · omega
    · rw [List.length_append]; exact Nat.le_refl _
  unfold digB at hd
  simp only [Bool.and_eq_true, decide_eq_true_eq] at hd
  have HP := Lib.hid (show placeP lit ps d b = flushP lit ps ++ [⟨[], (d.toNat : Int) - 48, b⟩] from rfl)
  obtain ⟨hd1, hd2⟩ := hd
  clear h
  generalize flushP lit ps = fl at *
  generalize (d.toNat : Int) = c at *
  generalize placeP lit ps d b = T at *
  go_enter Tryz.func165, Tryz.ntmps165
  go_upto_region 1 with (go_at_call 133; refine cf.mono ?_; rintro er w1 ⟨rfl, hS, hb1⟩)
  obtain ⟨sp, A1, c1, A2, c2, hsp, hb, hp⟩ := hS
  have hgl := hb.lt
  have hsz := hb1.size
  have k4 : w1.cell? ⟨g, 4, none⟩ = some (.slice A2 fl.length c2) := hb.cell 4 rfl
  go_wp2_with (at_builtin; refine wpList_push elemP rfl (.tmp 12) (.tmp 18) rfl rfl _ rfl (hp.o2.alloc _) (⟨[], c - 48, b⟩ : Pt) _ rfl (by simp) (ptC_one _) rfl (by unfold maxLen; omega) (Nat.le_trans hB (by simp; omega)) ?_; intro A5 c5 w5 ho5 hg5 ha5; have hb5 := (hb.alloc _).keep hg5 (fun e => hp.n2 e); have f5 := hb5.frozen 4; have u5 : w5.cell? ⟨g, 4, none⟩ = some (.slice A2 fl.length c2) := hb5.cell 4 rfl; have hb6 := hb5.set_ 4 (.slice A5 (fl.length + 1) c5); have f6 := hb6.frozen 5; have u6 : (w5.setCell ⟨g, 4, none⟩ (.slice A5 (fl.length + 1) c5)).cell? ⟨g, 5, none⟩ = some (.int .i64 pl) := hb6.cell 5 rfl)
  go_end0
  have hb7 := hb6.set_ 5 (.int .i64 ((pl : Int) + 1))
  have hn5 : blk A5 ≠ some g := by
    rcases ha5 with h | h
    · rw [h]; exact hp.n2
    · rw [h]; intro e2; injection e2 with e2; simp at e2; omega
  have k9 := (gset w5 g 4 (.slice A5 (fl.length + 1) c5)).trans (gset _ g 5 (.int .i64 ((pl : Int) + 1)))
  have hap : Apart A1 A5 := fun k hk hk2 => by
    rcases ha5 with h | h
    · exact hp.ap k hk (by rw [← h]; exact hk2)
    · rw [h] at hk2
      injection hk2 with hk2
      have := (hp.o1.lt k hk).2
      simp at hk2
      omega
  have o1 := (hp.o1.alloc (.cells (ptC ⟨[], c - 48, b⟩).toArray 136)).keep hg5 (fun k hk hk2 => hp.ap k hk2 hk)
  refine ⟨rfl, ⟨sp, A1, c1, A5, c5, hsp, ?_, ⟨hp.hg, o1.keep k9 (fun k hk => by injection hk with hk; rw [← hk]; exact hp.n1), ?_, hp.n1, hn5, hap⟩⟩, ?_⟩
  · rw [HP.out, List.length_append]
    exact hb7
  · rw [HP.out, List.length_append]
    exact ho5.keep k9 (fun k hk => by injection hk with hk; rw [← hk]; exact hn5)
  · have h2 := (hb1.alloc (Nat.le_trans hB hsz) (.cells (ptC ⟨[], c - 48, b⟩).toArray 136)).grown hg5 (Nat.le_trans hB (by simp; omega)) (fun k hk => (hp.o2.lt k hk).1)
    exact (h2.setCell (p := ⟨g, 4, none⟩) hp.hg _).setCell (p := ⟨g, 5, none⟩) hp.hg _

def digAt (s : ByteArray) (k : Nat) : Bool := match s.data.toList[k]? with
  | some c => digB c
  | none => false
theorem digAt_lt {s : ByteArray} {k : Nat} (h : k < s.size) : digAt s k = digB s[k] := by
  unfold digAt
  have : s.data.toList[k]? = some s[k] := by rw [List.getElem?_eq_getElem (by simpa using h)]; rfl
  rw [this]
theorem digAt_ge {s : ByteArray} {k : Nat} (h : ¬ k < s.size) : digAt s k = false := by
  unfold digAt
  rw [List.getElem?_eq_none (by simp; exact Nat.not_lt.1 h)]
set_option maxHeartbeats 2000000 in
set_option maxRecDepth 100000 in
theorem digit_any (g k : Nat) (s : ByteArray) (w : World) (h : w.cell? ⟨g, 0, none⟩ = some (.string s)) :
    Calls Tryz.prog 164 #[.pointer (some ⟨g, 0, none⟩), .int .i64 k] w fun er w' => er = .returned (.bool (digAt s k)) ∧ w' = w := by
  by_cases hlt : k < s.size
  · rw [digAt_lt hlt]
    have hc := s[k].toNat_lt
    have hq := run_index_str s k hlt
    unfold digB
    generalize s[k] = c at *
    by_cases h1 : 49 ≤ (c.toNat : Int)
    · have e1 : decide (49 ≤ (c.toNat : Int)) = true := decide_eq_true h1
      go_enter Tryz.func164, Tryz.ntmps164
      go_wp2_with fail
      go_ret
      exact ⟨by simp [*], rfl⟩
    · have e1 : decide (49 ≤ (c.toNat : Int)) = false := decide_eq_false h1
      go_enter Tryz.func164, Tryz.ntmps164
      go_wp2_with fail
      go_ret
      exact ⟨by simp [*], rfl⟩
  · rw [digAt_ge hlt]
    go_enter Tryz.func164, Tryz.ntmps164
    go_wp2_with fail
    go_ret
    exact ⟨rfl, rfl⟩
end Go.Proofs.YthbodpjkckminaaGreatDoor

namespace Go.Proofs.YthbodpjkckminaaGreatDoor
open Go.RowKit

section
variable {w w' : World} {B g at_ pl : Nat} {s : ByteArray} {lit : List UInt8} {ps : List Pt} {e : Int}
theorem Sc.c0 (h : Sc w B g s at_ lit ps pl e) : w.cell? ⟨g, 0, none⟩ = some (.string s) := by
  obtain ⟨sp, A1, c1, A2, c2, hsp, hb, hp⟩ := h
  exact hb.cell 0 rfl
theorem Sc.c1 (h : Sc w B g s at_ lit ps pl e) : w.cell? ⟨g, 1, none⟩ = some (.int .i64 at_) := by
  obtain ⟨sp, A1, c1, A2, c2, hsp, hb, hp⟩ := h
  exact hb.cell 1 rfl
theorem Sc.c5 (h : Sc w B g s at_ lit ps pl e) : w.cell? ⟨g, 5, none⟩ = some (.int .i64 pl) := by
  obtain ⟨sp, A1, c1, A2, c2, hsp, hb, hp⟩ := h
  exact hb.cell 5 rfl
theorem Sc.c6 (h : Sc w B g s at_ lit ps pl e) : w.cell? ⟨g, 6, none⟩ = some (.int .i64 e) := by
  obtain ⟨sp, A1, c1, A2, c2, hsp, hb, hp⟩ := h
  exact hb.cell 6 rfl
theorem Sc.fz (h : Sc w B g s at_ lit ps pl e) (i : Nat) : w.frozen? ⟨g, i, none⟩ = false := by
  obtain ⟨sp, A1, c1, A2, c2, hsp, hb, hp⟩ := h
  exact hb.frozen i
theorem Sc.drewN (h : Sc w B g s at_ lit ps pl e) (n : Nat) : Sc (w.drewN n) B g s at_ lit ps pl e := by
  obtain ⟨sp, A1, c1, A2, c2, hsp, hb, hp⟩ := h
  exact ⟨sp, A1, c1, A2, c2, hsp, hb.drewN n, ⟨hp.hg, hp.o1.drewN n, hp.o2.drewN n, hp.n1, hp.n2, hp.ap⟩⟩
theorem Sc.at (h : Sc w B g s at_ lit ps pl e) (k : Nat) : Sc (w.setCell ⟨g, 1, none⟩ (.int .i64 k)) B g s k lit ps pl e := by
  obtain ⟨sp, A1, c1, A2, c2, hsp, hb, hp⟩ := h
  exact ⟨sp, A1, c1, A2, c2, hsp, hb.set_ 1 _, hp.set (gset _ _ _ _)⟩
theorem Sc.err (h : Sc w B g s at_ lit ps pl e) (k : Int) : Sc (w.setCell ⟨g, 6, none⟩ (.int .i64 k)) B g s at_ lit ps pl k := by
  obtain ⟨sp, A1, c1, A2, c2, hsp, hb, hp⟩ := h
  exact ⟨sp, A1, c1, A2, c2, hsp, hb.set_ 6 _, hp.set (gset _ _ _ _)⟩
theorem Sc.gB (h : Sc w B g s at_ lit ps pl e) : B ≤ g := by
  obtain ⟨sp, A1, c1, A2, c2, hsp, hb, hp⟩ := h
  exact hp.hg
end
def pcS : ByteArray := ⟨#[37, 37]⟩
def pdS : ByteArray := ⟨#[37, 100]⟩
def hpA (s p : ByteArray) (k : Nat) : Bool := Lib.hasPrefix (s.extract k s.size).data.toList p.data.toList
def PcP (B g : Nat) (s : ByteArray) (at_ pl : Nat) (lit : List UInt8) (ps : List Pt) (w w' : World) : Prop :=
  Below B w w' ∧ (if hpA s pcS at_ = true then Sc w' B g s (at_ + 2) (lit ++ [37]) ps pl 0
    else if digAt s (at_ + 1) = true then Sc w' B g s (at_ + 2) [] (placeP lit ps (s.data.toList.getD (at_ + 1) 0) false) (pl + 1) 0
    else if (hpA s pdS at_ && digAt s (at_ + 2)) = true then Sc w' B g s (at_ + 3) [] (placeP lit ps (s.data.toList.getD (at_ + 2) 0) true) (pl + 1) 0
    else Sc w' B g s at_ lit ps pl 14)

set_option maxHeartbeats 4000000 in
set_option maxRecDepth 100000 in
theorem percent_any (B g : Nat) (s : ByteArray) (at_ pl : Nat) (lit : List UInt8) (ps : List Pt) (w : World) (h : Sc w B g s at_ lit ps pl 0) (hl : lit.length ≤ 4000 ∧ ps.length ≤ 4000) (hpl : pl ≤ 4096) (hs : s.size ≤ 4096) (hat : at_ < s.size) (hB : B ≤ w.heap.size) :
    Calls Tryz.prog 131 #[.pointer (some ⟨g, 0, none⟩)] w fun er w' => er = .returned (.tuple #[]) ∧ PcP B g s at_ pl lit ps w w' := by
  have c0 := h.c0
  have c1 := h.c1
  have hB1 : ∀ q, B ≤ (w.drewN q).heap.size := fun q => hB
  have kp := fun p q => Tryz.strings_HasPrefix (s.extract at_ s.size) p (w.drewN q)
  have i0 : (0 : Int) ≤ (at_ : Int) := by omega
  have i1 : (at_ : Int) ≤ (s.size : Int) := by omega
  have hgB := h.gB
  by_cases a1 : hpA s pcS at_ = true
  · have kw := fun q => writeByte_any B g s at_ pl lit ps 0 37 (w.drewN q) (h.drewN q) (by omega) (hB1 q)
    have k1 := kp pcS
    rw [show Lib.hasPrefix (s.extract at_ s.size).data.toList pcS.data.toList = true from a1] at k1
    have HPP := Lib.hid (fun w' (h1 : Below B w w') (h2 : Sc w' B g s (at_ + 2) (lit ++ [37]) ps pl 0) => (⟨h1, by rw [if_pos a1]; exact h2⟩ : PcP B g s at_ pl lit ps w w'))
    clear a1 kp
    unfold pcS at k1
    go_enter Tryz.func131, Tryz.ntmps131
    go_wp2_with fail
    go_quiet ((go_at_call 163; exact Calls.quiet_of_same (k1 _)))
    go_wp2_with (go_at_call 132; refine (kw _).mono ?_; rintro er w1 ⟨rfl, hS1, hb1⟩; have t1 := hS1.c1; have f1 := hS1.fz 1)
    go_end0
    exact ⟨rfl, HPP.out _ ((Below.trans (below_drewN (Below.refl B w) _) hb1).setCell (p := ⟨g, 1, none⟩) hgB _) (hS1.at (at_ + 2))⟩
  · have a1' : hpA s pcS at_ = false := by simpa using a1
    have k1 := kp pcS
    rw [show Lib.hasPrefix (s.extract at_ s.size).data.toList pcS.data.toList = false from a1'] at k1
    unfold pcS at k1
    have kd1 : ∀ q, Calls Tryz.prog 164 #[.pointer (some ⟨g, 0, none⟩), .int .i64 ((at_ : Int) + 1)] (w.drewN q) fun er w' => er = .returned (.bool (digAt s (at_ + 1))) ∧ w' = w.drewN q := fun q => digit_any g (at_ + 1) s (w.drewN q) c0
    by_cases a2 : digAt s (at_ + 1) = true
    · have hlt : at_ + 1 < s.size := by
        rcases Nat.lt_or_ge (at_ + 1) s.size with h9 | h9
        · exact h9
        · rw [digAt_ge (by omega)] at a2; cases a2
      have hdg : digB s[at_ + 1] = true := by rw [← digAt_lt hlt]; exact a2
      have hgd : s.data.toList.getD (at_ + 1) 0 = s[at_ + 1] := by rw [List.getD_eq_getElem?_getD, List.getElem?_eq_getElem (by simpa using hlt)]; rfl
      have HPP := Lib.hid (fun w' (h1 : Below B w w') (h2 : Sc w' B g s (at_ + 2) [] (placeP lit ps s[at_ + 1] false) (pl + 1) 0) => (⟨h1, by rw [if_neg a1, if_pos a2, hgd]; exact h2⟩ : PcP B g s at_ pl lit ps w w'))
      rw [a2] at kd1
      have hq : ∀ W, (Instr.index 9 (.string s) (.int .i64 ((at_ : Int) + 1))).run Tryz.prog W = .ok (.int .u8 (s[at_ + 1].toNat : Int)) W := fun W => run_index_str s (at_ + 1) hlt W
      have n1 : IntKind.i64.wrap ((at_ : Int) + 1) = (at_ : Int) + 1 := IntWalk.i64_in _ (by omega)
      have kpl := fun W (hW : Sc W B g s at_ lit ps pl 0) hBW => place_any B g s at_ pl lit ps 0 s[at_ + 1] false W hW ⟨by omega, hl.2⟩ hpl hBW hdg
      have HKP := Lib.hid kpl
      clear a1 a1' a2 kp hgd hdg kpl
      generalize s[at_ + 1] = dg at *
      go_enter Tryz.func131, Tryz.ntmps131
      go_wp2_with fail
      go_quiet ((go_at_call 163; exact Calls.quiet_of_same (k1 _)))
      go_upto_region 5 with (go_at_call 164; refine (kd1 _).mono ?_; rintro er w1 ⟨rfl, rfl⟩)
      have hS := h.drewN nq
      have hbw := below_drewN (Below.refl B w) nq
      have c0 := hS.c0
      have c1 := hS.c1
      have hBq := hB1 nq
      clear k1 kd1 h hB1
      generalize w.drewN nq = w1 at *
      have kpl := HKP.out (w1.drewN 1) (hS.drewN 1) hBq
      go_region_held3 (fun w' => w'.cell? ⟨g, 0, none⟩ = some (.string s) ∧ w'.cell? ⟨g, 1, none⟩ = some (.int .i64 at_))
        (first | go_keep | exact ⟨s9, r9⟩)
        (first | (go_at_call 165; refine kpl.mono ?_; rintro er w2 ⟨rfl, hS2, hb2⟩; have s9 := hS2.c0; have r9 := hS2.c1))
      all_goals
        have f1 := hS2.fz 1
        have n2 : IntKind.i64.wrap ((at_ : Int) + 2) = (at_ : Int) + 2 := IntWalk.i64_in _ (by omega)
        go_wp2_with fail
        go_end0
        exact ⟨rfl, HPP.out _ ((hbw.trans ((below_drewN (Below.refl B w1) 1).trans hb2)).setCell (p := ⟨g, 1, none⟩) hgB _) (hS2.at (at_ + 2))⟩
    · have a2' : digAt s (at_ + 1) = false := by simpa using a2
      have D1 : ∀ W, W.cell? ⟨g, 0, none⟩ = some (.string s) → Calls Tryz.prog 164 #[.pointer (some ⟨g, 0, none⟩), .int .i64 ((at_ : Int) + 1)] W fun er w' => er = .returned (.bool false) ∧ w' = W := fun W hc => by
        have := digit_any g (at_ + 1) s W hc
        rw [a2'] at this
        exact this
      have D2 : ∀ W, W.cell? ⟨g, 0, none⟩ = some (.string s) → Calls Tryz.prog 164 #[.pointer (some ⟨g, 0, none⟩), .int .i64 ((at_ : Int) + 2)] W fun er w' => er = .returned (.bool (digAt s (at_ + 2))) ∧ w' = W := fun W hc => digit_any g (at_ + 2) s W hc
      have K2 := fun W => Tryz.strings_HasPrefix (s.extract at_ s.size) pdS W
      rw [show Lib.hasPrefix (s.extract at_ s.size).data.toList pdS.data.toList = hpA s pdS at_ from rfl] at K2
      have n1 : IntKind.i64.wrap ((at_ : Int) + 1) = (at_ : Int) + 1 := IntWalk.i64_in _ (by omega)
      have n2 : IntKind.i64.wrap ((at_ : Int) + 2) = (at_ : Int) + 2 := IntWalk.i64_in _ (by omega)
      have HER := Lib.hid (fun (h9 : (hpA s pdS at_ && digAt s (at_ + 2)) = false) w' (h1 : Below B w w') (h2 : Sc w' B g s at_ lit ps pl 14) => (⟨h1, by rw [if_neg a1, if_neg a2, if_neg (by rw [h9]; simp)]; exact h2⟩ : PcP B g s at_ pl lit ps w w'))
      have HPP := Lib.hid (fun (h9 : (hpA s pdS at_ && digAt s (at_ + 2)) = true) w' (h1 : Below B w w') (h2 : Sc w' B g s (at_ + 3) [] (placeP lit ps (s.data.toList.getD (at_ + 2) 0) true) (pl + 1) 0) => (⟨h1, by rw [if_neg a1, if_neg a2, if_pos h9]; exact h2⟩ : PcP B g s at_ pl lit ps w w'))
      clear a1 a1' a2 a2' kp kd1
      cases a3 : hpA s pdS at_
      · rw [a3] at K2
        unfold pdS at K2
        have HE := Lib.hid (HER.out (by rw [a3]; rfl))
        clear HER HPP D2 a3
        go_enter Tryz.func131, Tryz.ntmps131
        go_wp2_with fail
        go_quiet ((go_at_call 163; exact Calls.quiet_of_same (k1 _)))
        have hS := h.drewN nq
        have hbw := below_drewN (Below.refl B w) nq
        clear k1 h hB1 c0 c1
        generalize w.drewN nq = w1 at *
        have c0 := hS.c0
        have c1 := hS.c1
        go_wp2_with (go_at_call 164; refine (D1 _ c0).mono ?_; rintro er w2 ⟨rfl, rfl⟩)
        go_quiet ((go_at_call 163; exact Calls.quiet_of_same (K2 _)))
        have hS2 := hS.drewN nq
        have f6 := hS2.fz 6
        have c6 := hS2.c6
        go_wp2_with fail
        go_end0
        exact ⟨rfl, HE.out _ ((below_drewN hbw _).setCell (p := ⟨g, 6, none⟩) hgB _) (hS2.err 14)⟩
      · rw [a3] at K2
        unfold pdS at K2
        cases a4 : digAt s (at_ + 2)
        · rw [a4] at D2
          have HE := Lib.hid (HER.out (by rw [a3, a4]; rfl))
          clear HER HPP a3 a4
          go_enter Tryz.func131, Tryz.ntmps131
          go_wp2_with fail
          go_quiet ((go_at_call 163; exact Calls.quiet_of_same (k1 _)))
          have hS := h.drewN nq
          have hbw := below_drewN (Below.refl B w) nq
          clear k1 h hB1 c0 c1
          generalize w.drewN nq = w1 at *
          have c0 := hS.c0
          have c1 := hS.c1
          go_wp2_with (go_at_call 164; refine (D1 _ c0).mono ?_; rintro er w2 ⟨rfl, rfl⟩)
          have D3 := fun q => D2 (w2.drewN q) c0
          go_quiet ((first | (go_at_call 163; exact Calls.quiet_of_same (K2 _)) | (go_at_call 164; exact Calls.quiet_of_same (D3 _))))
          have hS2 := hS.drewN nq
          have f6 := hS2.fz 6
          have c6 := hS2.c6
          go_wp2_with fail
          go_end0
          exact ⟨rfl, HE.out _ ((below_drewN hbw _).setCell (p := ⟨g, 6, none⟩) hgB _) (hS2.err 14)⟩
        · have hlt : at_ + 2 < s.size := by
            rcases Nat.lt_or_ge (at_ + 2) s.size with h9 | h9
            · exact h9
            · rw [digAt_ge (by omega)] at a4; cases a4
          have hdg : digB s[at_ + 2] = true := by rw [← digAt_lt hlt]; exact a4
          have hgd : s.data.toList.getD (at_ + 2) 0 = s[at_ + 2] := by rw [List.getD_eq_getElem?_getD, List.getElem?_eq_getElem (by simpa using hlt)]; rfl
          rw [a4] at D2
          have hpp : ∀ w', Below B w w' → Sc w' B g s (at_ + 3) [] (placeP lit ps s[at_ + 2] true) (pl + 1) 0 → PcP B g s at_ pl lit ps w w' := fun w' h1 h2 => HPP.out (by rw [a3, a4]; rfl) w' h1 (by rw [hgd]; exact h2)
          have HE := Lib.hid hpp
          have hq : ∀ W, (Instr.index 9 (.string s) (.int .i64 ((at_ : Int) + 2))).run Tryz.prog W = .ok (.int .u8 (s[at_ + 2].toNat : Int)) W := fun W => run_index_str s (at_ + 2) hlt W
          have kpl := fun W (hW : Sc W B g s at_ lit ps pl 0) hBW => place_any B g s at_ pl lit ps 0 s[at_ + 2] true W hW ⟨by omega, hl.2⟩ hpl hBW hdg
          have HKP := Lib.hid kpl
          clear HER HPP a3 a4 hpp hgd hdg kpl
          generalize s[at_ + 2] = dg at *
          go_enter Tryz.func131, Tryz.ntmps131
          go_wp2_with fail
          go_quiet ((go_at_call 163; exact Calls.quiet_of_same (k1 _)))
          have hS := h.drewN nq
          have hbw := below_drewN (Below.refl B w) nq
          have hBq := hB1 nq
          clear k1 h hB1 c0 c1
          generalize w.drewN nq = w1 at *
          have c0 := hS.c0
          have c1 := hS.c1
          go_wp2_with (go_at_call 164; refine (D1 _ c0).mono ?_; rintro er w2 ⟨rfl, rfl⟩)
          have D3 := fun q => D2 (w2.drewN q) c0
          go_quiet ((first | (go_at_call 163; exact Calls.quiet_of_same (K2 _)) | (go_at_call 164; exact Calls.quiet_of_same (D3 _))))
          have hS3 := hS.drewN nq
          have hbw3 := below_drewN hbw nq
          clear hS hbw c0 c1 D1 D2 D3 K2
          generalize w2.drewN nq = w3 at *
          have c0 := hS3.c0
          have c1 := hS3.c1
          have hBz : B ≤ w3.heap.size := Nat.le_trans hB hbw3.size
          have kpl := HKP.out (w3.drewN 1) (hS3.drewN 1) hBz
          go_upto_region 8 with fail
          go_region_held3 (fun w' => w'.cell? ⟨g, 0, none⟩ = some (.string s) ∧ w'.cell? ⟨g, 1, none⟩ = some (.int .i64 at_))
            (first | go_keep | exact ⟨s9, r9⟩)
            (first | (go_at_call 165; refine kpl.mono ?_; rintro er w4 ⟨rfl, hS4, hb4⟩; have s9 := hS4.c0; have r9 := hS4.c1))
          all_goals
            have f1 := hS4.fz 1
            go_wp2_with fail
            go_end0
            exact ⟨rfl, HE.out _ ((hbw3.trans ((below_drewN (Below.refl B w3) 1).trans hb4)).setCell (p := ⟨g, 1, none⟩) hgB _) (hS4.at (at_ + 3))⟩
end Go.Proofs.YthbodpjkckminaaGreatDoor
