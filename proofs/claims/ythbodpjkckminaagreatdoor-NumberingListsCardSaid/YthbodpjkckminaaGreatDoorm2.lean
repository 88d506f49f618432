/- property: the table of keys, and what is found in it. Words for int's bits. No program in sight. The plain laws of UTF-8: what is decoded, what is encoded. codepoint.tail, decode. codepoint.First, Valid. -/
import Derived.Test.YthbodpjkckminaaGreatDoorm1
import Derived.Test.YthbodpjkckminaaGreatDoorShelf
import Derived.Lib.SlicesSearch
import Derived.Deep.LoopGhost
import Derived.Laws.BitsAllLaws
import Derived.Laws.BitsLemmas
import Derived.Lib.RuneBytes
import Derived.IntWalk
namespace Go.Proofs.YthbodpjkckminaaGreatDoor
open Go.RowKit

/-- an entry of the table of keys. -/
structure Ky where
  num : Int
  grp : Int
  low : Int
  high : Int
  std : Int
  name : ByteArray
def kyC (k : Ky) : List Value := [.int .i64 k.num, .int .i64 k.grp, .int .i64 k.low, .int .i64 k.high, .int .i64 k.std, .string k.name]
theorem kyC_len (k : Ky) : (kyC k).length = 6 := rfl
theorem kyC_one (k : Ky) : ∀ u ∈ kyC k, u.oneCell' = true := by intro u hu; simp [kyC] at hu; rcases hu with rfl | rfl | rfl | rfl | rfl | rfl <;> rfl
def kyL : List Ky := [
  ⟨1, 1, 0, 1073741824, 0, ⟨#[99, 104, 97, 114, 97, 99, 116, 101, 114, 45, 115, 116, 121, 108, 101]⟩⟩,
  ⟨2, 1, 0, 1, 0, ⟨#[98, 111, 108, 100]⟩⟩,
  ⟨3, 1, 0, 1, 0, ⟨#[105, 116, 97, 108, 105, 99]⟩⟩,
  ⟨4, 1, 0, 3, 0, ⟨#[117, 110, 100, 101, 114, 108, 105, 110, 101]⟩⟩,
  ⟨5, 1, 2, 1638, 22, ⟨#[115, 105, 122, 101]⟩⟩,
  ⟨6, 1, 0, 16777215, 0, ⟨#[99, 111, 108, 111, 114]⟩⟩,
  ⟨7, 1, 0, 63, 0, ⟨#[102, 111, 110, 116]⟩⟩,
  ⟨8, 1, 0, 255, 0, ⟨#[108, 97, 110, 103, 117, 97, 103, 101]⟩⟩,
  ⟨9, 1, (-400), 400, 0, ⟨#[114, 97, 105, 115, 101]⟩⟩,
  ⟨10, 1, 0, 1, 0, ⟨#[104, 105, 100, 100, 101, 110]⟩⟩,
  ⟨20, 2, 0, 1073741824, 0, ⟨#[112, 97, 114, 97, 103, 114, 97, 112, 104, 45, 115, 116, 121, 108, 101]⟩⟩,
  ⟨21, 2, 0, 3, 0, ⟨#[97, 108, 105, 103, 110]⟩⟩,
  ⟨22, 2, (-31680), 31680, 0, ⟨#[108, 101, 102, 116]⟩⟩,
  ⟨23, 2, (-31680), 31680, 0, ⟨#[114, 105, 103, 104, 116]⟩⟩,
  ⟨24, 2, (-31680), 31680, 0, ⟨#[102, 105, 114, 115, 116]⟩⟩,
  ⟨25, 2, 0, 31680, 0, ⟨#[98, 101, 102, 111, 114, 101]⟩⟩,
  ⟨26, 2, 0, 31680, 0, ⟨#[97, 102, 116, 101, 114]⟩⟩,
  ⟨27, 2, 0, 31680, 0, ⟨#[108, 101, 97, 100, 105, 110, 103]⟩⟩,
  ⟨28, 2, 0, 1, 0, ⟨#[107, 101, 101, 112, 45, 110, 101, 120, 116]⟩⟩,
  ⟨29, 2, 0, 1, 0, ⟨#[107, 101, 101, 112, 45, 108, 105, 110, 101, 115]⟩⟩,
  ⟨30, 2, 0, 1, 1, ⟨#[119, 105, 100, 111, 119]⟩⟩,
  ⟨31, 2, 0, 1, 0, ⟨#[112, 97, 103, 101, 45, 98, 101, 102, 111, 114, 101]⟩⟩,
  ⟨32, 2, 0, 9, 0, ⟨#[111, 117, 116, 108, 105, 110, 101]⟩⟩,
  ⟨33, 2, 0, 1073741824, 0, ⟨#[108, 105, 115, 116]⟩⟩,
  ⟨34, 2, 1, 9, 1, ⟨#[108, 101, 118, 101, 108]⟩⟩,
  ⟨35, 2, 0, 32767, 0, ⟨#[114, 101, 115, 116, 97, 114, 116]⟩⟩,
  ⟨36, 2, 1, 31680, 720, ⟨#[116, 97, 98, 45, 115, 116, 111, 112]⟩⟩,
  ⟨37, 2, 0, 1, 0, ⟨#[104, 121, 112, 104, 101, 110, 97, 116, 101]⟩⟩,
  ⟨40, 3, 720, 31680, 12240, ⟨#[112, 97, 103, 101, 45, 119, 105, 100, 116, 104]⟩⟩,
  ⟨41, 3, 720, 31680, 15840, ⟨#[112, 97, 103, 101, 45, 104, 101, 105, 103, 104, 116]⟩⟩,
  ⟨42, 3, 0, 31680, 1440, ⟨#[116, 111, 112]⟩⟩,
  ⟨43, 3, 0, 31680, 1440, ⟨#[98, 111, 116, 116, 111, 109]⟩⟩,
  ⟨44, 3, 0, 31680, 1440, ⟨#[105, 110, 110, 101, 114]⟩⟩,
  ⟨45, 3, 0, 31680, 1440, ⟨#[111, 117, 116, 101, 114]⟩⟩,
  ⟨46, 3, 0, 32767, 0, ⟨#[102, 105, 114, 115, 116, 45, 112, 97, 103, 101]⟩⟩,
  ⟨47, 3, 1, 6, 1, ⟨#[112, 97, 103, 101, 45, 102, 111, 114, 109, 97, 116]⟩⟩,
  ⟨50, 4, 0, 1, 0, ⟨#[104, 101, 97, 100, 101, 114]⟩⟩,
  ⟨51, 4, 0, 1, 0, ⟨#[99, 97, 110, 116, 45, 115, 112, 108, 105, 116]⟩⟩,
  ⟨52, 4, 0, 31680, 0, ⟨#[114, 111, 119, 45, 104, 101, 105, 103, 104, 116]⟩⟩,
  ⟨60, 5, 1, 32, 1, ⟨#[99, 111, 108, 117, 109, 110, 45, 115, 112, 97, 110]⟩⟩,
  ⟨61, 5, 0, 2, 0, ⟨#[118, 101, 114, 116, 105, 99, 97, 108, 45, 109, 101, 114, 103, 101]⟩⟩,
  ⟨62, 5, 0, 31680, 0, ⟨#[99, 101, 108, 108, 45, 119, 105, 100, 116, 104]⟩⟩,
  ⟨63, 5, 0, 16777215, 16777215, ⟨#[115, 104, 97, 100, 101]⟩⟩,
  ⟨70, 6, 0, 31680, 0, ⟨#[116, 97, 98, 108, 101, 45, 119, 105, 100, 116, 104]⟩⟩,
  ⟨71, 6, 0, 2, 0, ⟨#[116, 97, 98, 108, 101, 45, 97, 108, 105, 103, 110]⟩⟩]
def kyZ : Ky := ⟨0, 0, 0, 0, 0, ⟨#[]⟩⟩
def gK (ks : List Ky) (i : Nat) : Ky := ks.getD i kyZ
def kyN : List Int := kyL.map (·.num)
/-- the cells of a slice's element, as a walk spells them. -/
theorem Sl.fld {α : Type} {w : World} {s : Nat} {enc : α → List Value} {A : Option Addr} {n : Nat} {xs : List α} (h : Sl w s enc A n xs) (z : α) {k : Nat} (hk : k < n) :
    ∃ ad, A = some ad ∧ ad.block < w.heap.size ∧ (∀ u, (enc (xs.getD k z))[0]? = some u → w.cell? (ad.add (k * s)) = some u) ∧ ∀ j u, 0 < j → (enc (xs.getD k z))[j]? = some u → w.cell? ⟨(ad.add (k * s)).block, (ad.add (k * s)).off + j, none⟩ = some u := by
  obtain ⟨ad, e, hl, x, hx, hc⟩ := h.at_ hk
  have hg : xs.getD k z = x := by rw [List.getD_eq_getElem?_getD, hx]; rfl
  rw [hg]
  refine ⟨ad, e, hl, fun u hu => hc 0 u hu, fun j u hj hu => ?_⟩
  have : w.cell? ((ad.add (k * s)).add j) = w.cell? ⟨(ad.add (k * s)).block, (ad.add (k * s)).off + j, none⟩ := by
    unfold Addr.add; simp [Nat.ne_of_gt hj]
  rw [← this, add_add_]; exact hc j u hu
theorem Sl.ky {w : World} {A : Option Addr} {n : Nat} {xs : List Ky} (h : Sl w 6 kyC A n xs) {k : Nat} (hk : k < n) :
    ∃ ad, A = some ad ∧ ad.block < w.heap.size ∧ w.cell? (ad.add (k * 6)) = some (.int .i64 (gK xs k).num) ∧ w.cell? ⟨(ad.add (k * 6)).block, (ad.add (k * 6)).off + 1, none⟩ = some (.int .i64 (gK xs k).grp) ∧ w.cell? ⟨(ad.add (k * 6)).block, (ad.add (k * 6)).off + 2, none⟩ = some (.int .i64 (gK xs k).low)
      ∧ w.cell? ⟨(ad.add (k * 6)).block, (ad.add (k * 6)).off + 3, none⟩ = some (.int .i64 (gK xs k).high) ∧ w.cell? ⟨(ad.add (k * 6)).block, (ad.add (k * 6)).off + 4, none⟩ = some (.int .i64 (gK xs k).std) ∧ w.cell? ⟨(ad.add (k * 6)).block, (ad.add (k * 6)).off + 5, none⟩ = some (.string (gK xs k).name) := by
  obtain ⟨ad, e, hl, h0, hj⟩ := h.fld kyZ hk
  exact ⟨ad, e, hl, h0 _ rfl, hj 1 _ (by omega) rfl, hj 2 _ (by omega) rfl, hj 3 _ (by omega) rfl, hj 4 _ (by omega) rfl, hj 5 _ (by omega) rfl⟩
theorem Blk.slq {α : Type} {w : World} {g : Nat} {t : TypeId} {s : Nat} {enc : α → List Value} {xs : List α} {n : Nat} (h : Blk w g t (xs.flatMap enc).toArray) (henc : ∀ x : α, (enc x).length = s) (hn : xs.length = n) : Sl w s enc (some ⟨g, 0, none⟩) n xs := by
  refine ⟨hn, fun _ => ⟨_, rfl, h.lt, fun i x hx j u hu => ?_⟩⟩
  have e : (⟨g, 0, none⟩ : Addr).add (i * s + j) = ⟨g, i * s + j, none⟩ := by unfold Addr.add; split <;> simp_all
  rw [e]
  exact h.cell _ (by simpa using getElem?_flat henc xs i x hx j u hu)
theorem wpl_val {P : Program} {ops : Array Oper} {rest : List Oper} {o : Oper} {a : Act} {w : World} {Q : Exit → Act → World → Prop} (v : Value) (w' : World) (hw : Region.wanted o (yielded ops a.tmps) = true) (he : (execOp a.eval o).run P w = .ok (.value v) w') (h : wpList P ops Q rest (a.put o.dst v) w') : wpList P ops Q (o :: rest) a w :=
  wpList_step fun K hK => by
    show if Region.wanted o (yielded ops a.tmps) = true then _ else _
    rw [if_pos hw]
    unfold Oper.wp
    rw [he, Oper.upon_value]
    exact hK _ _ h
set_option maxHeartbeats 16000000 in
set_option maxRecDepth 1000000 in
theorem table_any (w : World) : Calls Tryz.prog 103 #[] w fun e w' => ∃ g, e = .returned (.slice (some ⟨g, 0, none⟩) 45 45) ∧ Blk w' g 160 (kyL.flatMap kyC).toArray ∧ Below w.heap.size w w' := by
  have HB := Lib.hid (Blk.new w 160 (kyL.flatMap kyC).toArray)
  have hb := (Below.refl w.heap.size w).alloc (Nat.le_refl _) (.cells (kyL.flatMap kyC).toArray 160)
  go_enter Tryz.func103, Tryz.ntmps103
  go_upto_region 1 with fail
  refine wp_region_lit ?_
  refine wpl_val (.agg (kyC (gK kyL 0)).toArray) w (by rfl) (by kernel_rfl) ?_
  refine wpl_val (.agg (kyC (gK kyL 1)).toArray) w (by rfl) (by kernel_rfl) ?_
  refine wpl_val (.agg (kyC (gK kyL 2)).toArray) w (by rfl) (by kernel_rfl) ?_
  refine wpl_val (.agg (kyC (gK kyL 3)).toArray) w (by rfl) (by kernel_rfl) ?_
  refine wpl_val (.agg (kyC (gK kyL 4)).toArray) w (by rfl) (by kernel_rfl) ?_
  refine wpl_val (.agg (kyC (gK kyL 5)).toArray) w (by rfl) (by kernel_rfl) ?_
  refine wpl_val (.agg (kyC (gK kyL 6)).toArray) w (by rfl) (by kernel_rfl) ?_
  refine wpl_val (.agg (kyC (gK kyL 7)).toArray) w (by rfl) (by kernel_rfl) ?_
  refine wpl_val (.agg (kyC (gK kyL 8)).toArray) w (by rfl) (by kernel_rfl) ?_
  refine wpl_val (.agg (kyC (gK kyL 9)).toArray) w (by rfl) (by kernel_rfl) ?_
  refine wpl_val (.agg (kyC (gK kyL 10)).toArray) w (by rfl) (by kernel_rfl) ?_
  refine wpl_val (.agg (kyC (gK kyL 11)).toArray) w (by rfl) (by kernel_rfl) ?_
  refine wpl_val (.agg (kyC (gK kyL 12)).toArray) w (by rfl) (by kernel_rfl) ?_
  refine wpl_val (.agg (kyC (gK kyL 13)).toArray) w (by rfl) (by kernel_rfl) ?_
  refine wpl_val (.agg (kyC (gK kyL 14)).toArray) w (by rfl) (by kernel_rfl) ?_
  refine wpl_val (.agg (kyC (gK kyL 15)).toArray) w (by rfl) (by kernel_rfl) ?_
  refine wpl_val (.agg (kyC (gK kyL 16)).toArray) w (by rfl) (by kernel_rfl) ?_
  refine wpl_val (.agg (kyC (gK kyL 17)).toArray) w (by rfl) (by kernel_rfl) ?_
  refine wpl_val (.agg (kyC (gK kyL 18)).toArray) w (by rfl) (by kernel_rfl) ?_
  refine wpl_val (.agg (kyC (gK kyL 19)).toArray) w (by rfl) (by kernel_rfl) ?_
  refine wpl_val (.agg (kyC (gK kyL 20)).toArray) w (by rfl) (by kernel_rfl) ?_
  refine wpl_val (.agg (kyC (gK kyL 21)).toArray) w (by rfl) (by kernel_rfl) ?_
  refine wpl_val (.agg (kyC (gK kyL 22)).toArray) w (by rfl) (by kernel_rfl) ?_
  refine wpl_val (.agg (kyC (gK kyL 23)).toArray) w (by rfl) (by kernel_rfl) ?_
  refine wpl_val (.agg (kyC (gK kyL 24)).toArray) w (by rfl) (by kernel_rfl) ?_
  refine wpl_val (.agg (kyC (gK kyL 25)).toArray) w (by rfl) (by kernel_rfl) ?_
  refine wpl_val (.agg (kyC (gK kyL 26)).toArray) w (by rfl) (by kernel_rfl) ?_
  refine wpl_val (.agg (kyC (gK kyL 27)).toArray) w (by rfl) (by kernel_rfl) ?_
  refine wpl_val (.agg (kyC (gK kyL 28)).toArray) w (by rfl) (by kernel_rfl) ?_
  refine wpl_val (.agg (kyC (gK kyL 29)).toArray) w (by rfl) (by kernel_rfl) ?_
  refine wpl_val (.agg (kyC (gK kyL 30)).toArray) w (by rfl) (by kernel_rfl) ?_
  refine wpl_val (.agg (kyC (gK kyL 31)).toArray) w (by rfl) (by kernel_rfl) ?_
  refine wpl_val (.agg (kyC (gK kyL 32)).toArray) w (by rfl) (by kernel_rfl) ?_
  refine wpl_val (.agg (kyC (gK kyL 33)).toArray) w (by rfl) (by kernel_rfl) ?_
  refine wpl_val (.agg (kyC (gK kyL 34)).toArray) w (by rfl) (by kernel_rfl) ?_
  refine wpl_val (.agg (kyC (gK kyL 35)).toArray) w (by rfl) (by kernel_rfl) ?_
  refine wpl_val (.agg (kyC (gK kyL 36)).toArray) w (by rfl) (by kernel_rfl) ?_
  refine wpl_val (.agg (kyC (gK kyL 37)).toArray) w (by rfl) (by kernel_rfl) ?_
  refine wpl_val (.agg (kyC (gK kyL 38)).toArray) w (by rfl) (by kernel_rfl) ?_
  refine wpl_val (.agg (kyC (gK kyL 39)).toArray) w (by rfl) (by kernel_rfl) ?_
  refine wpl_val (.agg (kyC (gK kyL 40)).toArray) w (by rfl) (by kernel_rfl) ?_
  refine wpl_val (.agg (kyC (gK kyL 41)).toArray) w (by rfl) (by kernel_rfl) ?_
  refine wpl_val (.agg (kyC (gK kyL 42)).toArray) w (by rfl) (by kernel_rfl) ?_
  refine wpl_val (.agg (kyC (gK kyL 43)).toArray) w (by rfl) (by kernel_rfl) ?_
  refine wpl_val (.agg (kyC (gK kyL 44)).toArray) w (by rfl) (by kernel_rfl) ?_
  refine wpl_val (.slice (some ⟨w.heap.size, 0, none⟩) 45 45) (w.alloc (.cells (kyL.flatMap kyC).toArray 160)) (by rfl) (by kernel_rfl) ?_
  refine wpl_val (.slice (some ⟨w.heap.size, 0, none⟩) 45 45) (w.alloc (.cells (kyL.flatMap kyC).toArray 160)) (by rfl) (by kernel_rfl) ?_
  generalize w.alloc (.cells (kyL.flatMap kyC).toArray 160) = w2 at *
  simp only [Act.put, List.setIfInBounds_toArray, List.set_cons_zero, List.set_cons_succ, wpList]
  go_wp2_with fail
  go_ret
  exact ⟨_, rfl, HB.out, hb⟩
end Go.Proofs.YthbodpjkckminaaGreatDoor

namespace Go.Proofs.YthbodpjkckminaaGreatDoor
theorem nat_of_i64 (a : Nat) (ha : a < 9223372036854775808) : (BitVec.ofInt 64 (a : Int)).toNat = a := by
  rw [BitVec.ofInt_natCast, BitVec.toNat_ofNat]; exact Nat.mod_eq_of_lt (by omega)
theorem and_i64 (a b : Nat) (ha : a < 9223372036854775808) (hb : b < 9223372036854775808) : bits .and .i64 (a : Int) (b : Int) = ((a &&& b : Nat) : Int) := by
  have hx : a &&& b < 2 ^ 63 := Nat.and_lt_two_pow _ (by omega)
  show IntKind.i64.wrap ((BitVec.ofInt 64 (a : Int) &&& BitVec.ofInt 64 (b : Int)).toNat : Int) = _
  rw [BitVec.toNat_and, nat_of_i64 a ha, nat_of_i64 b hb, IntKind.wrap_i64]
  omega
theorem or_i64 (a b : Nat) (ha : a < 9223372036854775808) (hb : b < 9223372036854775808) : bits .or .i64 (a : Int) (b : Int) = ((a ||| b : Nat) : Int) := by
  have hx : a ||| b < 2 ^ 63 := Nat.or_lt_two_pow (by omega) (by omega)
  show IntKind.i64.wrap ((BitVec.ofInt 64 (a : Int) ||| BitVec.ofInt 64 (b : Int)).toNat : Int) = _
  rw [BitVec.toNat_or, nat_of_i64 a ha, nat_of_i64 b hb, IntKind.wrap_i64]
  omega
/-- '&' with a mask of the lowest i bits. -/
theorem mask_i64 (i : Nat) (hi : i < 63) (x : Int) (h0 : 0 ≤ x) (h1 : x < 9223372036854775808) : bits .and .i64 x ((2 ^ i - 1 : Nat) : Int) = x % ((2 ^ i : Nat) : Int) := by
  obtain ⟨a, rfl⟩ := Int.eq_ofNat_of_zero_le h0
  have hp : 2 ^ i < 2 ^ 63 := Nat.pow_lt_pow_right (by omega) hi
  rw [and_i64 a _ (by omega) (by omega), Nat.and_two_pow_sub_one_eq_mod]
  rfl
/-- '|' of a multiple of 2^i and what lies below. -/
theorem join_i64 (i : Nat) (x y : Int) (hx : 0 ≤ x) (hy : 0 ≤ y) (hyi : y < ((2 ^ i : Nat) : Int)) (h1 : x * ((2 ^ i : Nat) : Int) + y < 9223372036854775808) :
    bits .or .i64 (x * ((2 ^ i : Nat) : Int)) y = x * ((2 ^ i : Nat) : Int) + y := by
  obtain ⟨a, rfl⟩ := Int.eq_ofNat_of_zero_le hx
  obtain ⟨b, rfl⟩ := Int.eq_ofNat_of_zero_le hy
  have hb : b < 2 ^ i := by omega
  have e : ((a : Int) * ((2 ^ i : Nat) : Int)) = ((a * 2 ^ i : Nat) : Int) := by rw [Int.natCast_mul]
  rw [e] at h1 ⊢
  rw [or_i64 _ b (by omega) (by omega)]
  have := Nat.two_pow_add_eq_or_of_lt hb a
  rw [Nat.mul_comm] at this
  rw [← this]
  omega
theorem nat_of_u8 (a : Nat) (ha : a < 256) : (BitVec.ofInt 8 (a : Int)).toNat = a := by
  rw [BitVec.ofInt_natCast, BitVec.toNat_ofNat]; exact Nat.mod_eq_of_lt (by omega)
theorem or_u8 (a b : Nat) (ha : a < 256) (hb : b < 256) : bits .or .u8 (a : Int) (b : Int) = ((a ||| b : Nat) : Int) := by
  have hx : a ||| b < 2 ^ 8 := Nat.or_lt_two_pow (by omega) (by omega)
  show IntKind.u8.wrap ((BitVec.ofInt 8 (a : Int) ||| BitVec.ofInt 8 (b : Int)).toNat : Int) = _
  rw [BitVec.toNat_or, nat_of_u8 a ha, nat_of_u8 b hb, IntKind.wrap_u8]
  omega
/-- '|' of a multiple of 2^i and what lies below, on bytes. -/
theorem join_u8 (i x : Nat) (y : Int) (hy : 0 ≤ y) (hyi : y < ((2 ^ i : Nat) : Int)) (h1 : ((x * 2 ^ i : Nat) : Int) + y < 256) :
    bits .or .u8 ((x * 2 ^ i : Nat) : Int) y = ((x * 2 ^ i : Nat) : Int) + y := by
  obtain ⟨b, rfl⟩ := Int.eq_ofNat_of_zero_le hy
  have hb : b < 2 ^ i := by omega
  rw [or_u8 _ b (by omega) (by omega)]
  have := Nat.two_pow_add_eq_or_of_lt hb x
  rw [Nat.mul_comm] at this
  rw [← this]
  omega
end Go.Proofs.YthbodpjkckminaaGreatDoor

namespace Go.Proofs.YthbodpjkckminaaGreatDoor
open Go
def tailLo (c : Int) : Int := if c = 224 then 160 else if c = 240 then 144 else 128
def tailHi (c : Int) : Int := if c = 237 then 159 else if c = 244 then 143 else 191
def tailN (c : Int) : Int := if c < 128 then 1 else if c < 194 ∨ 244 < c then 0 else if c < 224 then 2 else if c < 240 then 3 else 4
def decL : Nat → List Int → Int → Nat → Int → Int → Int × Nat × Bool
  | 0, _, p, sz, _, _ => (p, sz, true)
  | _ + 1, [], _, sz, _, _ => (0, sz, false)
  | f + 1, c :: cs, p, sz, lo, hi => if c < lo ∨ hi < c then (0, sz, false) else decL f cs (p * 64 + c % 64) (sz + 1) 128 191
/-- what stands at the head of some bytes: the code point, its size, and whether it is complete. -/
def decF : List Int → Int × Nat × Bool
  | [] => (0, 0, false)
  | c :: cs => if tailN c = 0 then (0, 0, false) else if tailN c = 1 then (c, 1, true) else
      decL ((tailN c).toNat - 1) cs (if tailN c = 2 then c % 32 else if tailN c = 3 then c % 16 else c % 8) 1 (tailLo c) (tailHi c)
theorem decL_sz : ∀ (f : Nat) (cs : List Int) (p : Int) (sz : Nat) (lo hi : Int), (decL f cs p sz lo hi).2.2 = true → (decL f cs p sz lo hi).2.1 = sz + f ∧ f ≤ cs.length
  | 0, _, _, _, _, _, _ => ⟨rfl, Nat.zero_le _⟩
  | f + 1, [], _, _, _, _, h => by simp [decL] at h
  | f + 1, c :: cs, p, sz, lo, hi, h => by
    rw [decL] at h ⊢
    by_cases hc : c < lo ∨ hi < c
    · rw [if_pos hc] at h; cases h
    · rw [if_neg hc] at h ⊢
      obtain ⟨h1, h2⟩ := decL_sz f cs _ _ _ _ h
      exact ⟨by omega, by simp; omega⟩
theorem decF_sz (l : List Int) (h : (decF l).2.2 = true) : 1 ≤ (decF l).2.1 ∧ (decF l).2.1 ≤ l.length ∧ (decF l).2.1 ≤ 4 := by
  cases l with
  | nil => cases h
  | cons c cs =>
    rw [decF] at h ⊢
    by_cases h0 : tailN c = 0
    · rw [if_pos h0] at h; cases h
    · rw [if_neg h0] at h ⊢
      by_cases h1 : tailN c = 1
      · rw [if_pos h1]; simp
      · rw [if_neg h1] at h ⊢
        obtain ⟨e1, e2⟩ := decL_sz _ _ _ _ _ _ h
        have hN : tailN c = 2 ∨ tailN c = 3 ∨ tailN c = 4 := by
          have : tailN c = 0 ∨ tailN c = 1 ∨ tailN c = 2 ∨ tailN c = 3 ∨ tailN c = 4 := by unfold tailN; (repeat' split) <;> omega
          omega
        rw [e1]
        simp only [List.length_cons]
        omega
def firstF : Nat → Nat → List Int → Int
  | 0, _, _ => -1
  | _ + 1, _, [] => -1
  | f + 1, at_, c :: cs => if (decF (c :: cs)).2.2 then firstF f (at_ + (decF (c :: cs)).2.1) ((c :: cs).drop (decF (c :: cs)).2.1) else (at_ : Int)
def ptsF : Nat → List Int → Option (List Int)
  | 0, _ => none
  | _ + 1, [] => some []
  | f + 1, c :: cs => if (decF (c :: cs)).2.2 then (ptsF f ((c :: cs).drop (decF (c :: cs)).2.1)).map ((decF (c :: cs)).1 :: ·) else none
def ptsO (l : List Int) : Option (List Int) := ptsF (l.length + 1) l
theorem ptsF_eq : ∀ (f f' : Nat) (l : List Int), l.length < f → l.length < f' → ptsF f l = ptsF f' l
  | 0, _, _, h, _ => absurd h (by omega)
  | _ + 1, 0, _, _, h => absurd h (by omega)
  | f + 1, f' + 1, [], _, _ => rfl
  | f + 1, f' + 1, c :: cs, h, h' => by
    rw [ptsF, ptsF]
    by_cases hd : (decF (c :: cs)).2.2 = true
    · rw [if_pos hd, if_pos hd]
      have hz := decF_sz _ hd
      have hl : ((c :: cs).drop (decF (c :: cs)).2.1).length ≤ cs.length := by rw [List.length_drop, List.length_cons]; omega
      simp only [List.length_cons] at h h'
      rw [ptsF_eq f f' _ (by omega) (by omega)]
    · rw [if_neg hd, if_neg hd]
theorem ptsO_cons (c : Int) (cs : List Int) : ptsO (c :: cs) = if (decF (c :: cs)).2.2 then (ptsO ((c :: cs).drop (decF (c :: cs)).2.1)).map ((decF (c :: cs)).1 :: ·) else none := by
  unfold ptsO
  conv => lhs; rw [ptsF]
  by_cases hd : (decF (c :: cs)).2.2 = true
  · rw [if_pos hd, if_pos hd]
    have hz := decF_sz _ hd
    have hl : ((c :: cs).drop (decF (c :: cs)).2.1).length ≤ cs.length := by rw [List.length_drop, List.length_cons]; omega
    rw [ptsF_eq (c :: cs).length _ _ (by rw [List.length_cons]; omega) (Nat.lt_succ_self _)]
  · rw [if_neg hd, if_neg hd]
theorem firstF_neg : ∀ (f at_ : Nat) (l : List Int), l.length < f → (firstF f at_ l < 0 ↔ (ptsO l).isSome = true)
  | 0, _, _, h => absurd h (by omega)
  | f + 1, at_, [], _ => by simp [firstF, ptsO, ptsF]
  | f + 1, at_, c :: cs, h => by
    rw [firstF, ptsO_cons]
    by_cases hd : (decF (c :: cs)).2.2 = true
    · rw [if_pos hd, if_pos hd]
      have hz := decF_sz _ hd
      have hl : ((c :: cs).drop (decF (c :: cs)).2.1).length ≤ cs.length := by rw [List.length_drop, List.length_cons]; omega
      simp only [List.length_cons] at h
      rw [firstF_neg f _ _ (by omega), Option.isSome_map]
    · rw [if_neg hd, if_neg hd]; simp
def encU (p : Int) : List Int :=
  if p < 128 then [p] else if p < 2048 then [192 + p / 64, 128 + p % 64] else if p < 65536 then [224 + p / 4096, 128 + p / 64 % 64, 128 + p % 64]
  else [240 + p / 262144, 128 + p / 4096 % 64, 128 + p / 64 % 64, 128 + p % 64]
def isPoint (p : Int) : Bool := decide (0 ≤ p) && (decide (p ≤ 1114111) && !decide (p / 2048 = 27))
theorem isPoint_iff (p : Int) : isPoint p = true ↔ 0 ≤ p ∧ p ≤ 1114111 ∧ ¬ (55296 ≤ p ∧ p < 57344) := by
  unfold isPoint; simp; omega
/-- the string with some bytes. -/
def mkS (ns : List Int) : ByteArray := ns.foldl (fun r n => r.push (UInt8.ofNat n.toNat)) ByteArray.empty
def byts (s : ByteArray) : List Int := s.data.toList.map (fun c => (c.toNat : Int))
theorem mkS_data (ns : List Int) : ∀ r : ByteArray, (ns.foldl (fun r n => r.push (UInt8.ofNat n.toNat)) r).data.toList = r.data.toList ++ ns.map (fun n => UInt8.ofNat n.toNat) := by
  induction ns with
  | nil => intro r; simp
  | cons n ns ih =>
    intro r
    rw [List.foldl_cons, ih]
    show (r.data.push _).toList ++ _ = _
    simp
theorem byts_mkS (ns : List Int) (h : ∀ n ∈ ns, 0 ≤ n ∧ n ≤ 255) : byts (mkS ns) = ns := by
  unfold byts mkS
  rw [mkS_data, List.map_append, List.map_map]
  show [] ++ _ = ns
  rw [List.nil_append]
  conv => rhs; rw [← List.map_id ns]
  refine List.map_congr_left fun n hn => ?_
  have := h n hn
  simp only [Function.comp_def, id]
  rw [UInt8.toNat_ofNat_of_lt' (by show n.toNat < 256; omega)]
  omega
theorem byts_inj {a b : ByteArray} (h : byts a = byts b) : a = b := by
  have h2 : a.data.toList = b.data.toList := by
    unfold byts at h
    refine List.map_inj_right (fun x y hxy => ?_) |>.1 h
    have : x.toNat = y.toNat := by omega
    exact UInt8.toNat_inj.1 this
  cases a; cases b
  congr 1
  exact Array.toList_inj.1 h2
theorem byts_len (s : ByteArray) : (byts s).length = s.size := by unfold byts; rw [List.length_map, Array.length_toList]; rfl
theorem encU_bytes (p : Int) (h0 : 0 ≤ p) (h1 : p ≤ 1114111) : ∀ n ∈ encU p, 0 ≤ n ∧ n ≤ 255 := by
  intro n hn
  unfold encU at hn
  (repeat' split at hn) <;> simp at hn <;> omega
theorem encU_len (p : Int) : 1 ≤ (encU p).length ∧ (encU p).length ≤ 4 := by unfold encU; (repeat' split) <;> simp
end Go.Proofs.YthbodpjkckminaaGreatDoor

namespace Go.Proofs.YthbodpjkckminaaGreatDoor
open Go.RowKit

theorem ret3 {k1 k2 k3 : IntKind} {a b c a' b' c' : Int} (h1 : a = a') (h2 : b = b') (h3 : c = c') : Ending.returned (.tuple #[.int k1 a, .int k2 b, .int k3 c]) = .returned (.tuple #[.int k1 a', .int k2 b', .int k3 c']) := by rw [h1, h2, h3]
set_option maxHeartbeats 1000000 in
theorem tail_any (c : Int) (w : World) (h0 : 0 ≤ c) (h1 : c ≤ 255) :
    Calls Tryz.prog 185 #[.int .u8 c] w fun e w' => e = .returned (.tuple #[.int .u8 (tailLo c), .int .u8 (tailHi c), .int .i64 (tailN c)]) ∧ w = w' := by
  go_enter Tryz.func185, Tryz.ntmps185
  go_wp2
  all_goals go_ret3
  all_goals refine ⟨ret3 ?_ ?_ ?_, rfl⟩
  all_goals (go_light; simp only [beq_iff_eq, beq_eq_false_iff_ne, ne_eq] at *)
  all_goals first | (unfold tailLo; (repeat' split) <;> omega) | (unfold tailHi; (repeat' split) <;> omega) | (unfold tailN; (repeat' split) <;> omega)

theorem byts_drop (s : ByteArray) (k : Nat) (h : k < s.size) : (byts s).drop k = ((s[k]'h).toNat : Int) :: (byts s).drop (k + 1) := by
  have hk : k < (byts s).length := by rw [byts_len]; exact h
  rw [List.drop_eq_getElem_cons hk]
  congr 1
  simp only [byts, List.getElem_map]
  rfl
theorem run_index_str (s : ByteArray) (i : Nat) (h : i < s.size) (W : World) : (Instr.index 9 (.string s) (.int .i64 (i : Int))).run Tryz.prog W = .ok (.int .u8 ((s[i]'h).toNat : Int)) W := by simp [go_sem, h]
theorem ret_iib {k1 k2 : IntKind} {a b a' b' : Int} {c c' : Bool} (h1 : a = a') (h2 : b = b') (h3 : c = c') : Ending.returned (.tuple #[.int k1 a, .int k2 b, .bool c]) = .returned (.tuple #[.int k1 a', .int k2 b', .bool c']) := by rw [h1, h2, h3]

set_option maxHeartbeats 2000000 in
theorem decode_any (s : ByteArray) (k : Nat) (w : World) (hk : k < s.size) (hs : s.size ≤ maxLen) :
    Calls Tryz.prog 162 #[.string s, .int .i64 k] w fun e w' => e = .returned (.tuple #[.int .i64 (decF ((byts s).drop k)).1, .int .i64 (decF ((byts s).drop k)).2.1, .bool (decF ((byts s).drop k)).2.2]) ∧ w = w' := by
  unfold maxLen at hs
  have hd := byts_drop s k hk
  have hc : (0 : Int) ≤ (s[k].toNat : Int) ∧ (s[k].toNat : Int) ≤ 255 := by have := s[k].toNat_lt; omega
  have hx := run_index_str s k hk
  obtain ⟨c, hcc⟩ : ∃ c, c = (s[k].toNat : Int) := ⟨_, rfl⟩
  rw [← hcc] at hc hd hx
  clear hcc
  have hN : tailN c = 0 ∨ tailN c = 1 ∨ tailN c = 2 ∨ tailN c = 3 ∨ tailN c = 4 := by unfold tailN; (repeat' split) <;> omega
  rcases hN with hN | hN | hN | hN | hN
  · have ht := tail_any c w hc.1 hc.2
    have hf : decF ((byts s).drop k) = (0, 0, false) := by rw [hd, decF, if_pos hN]
    rw [hN] at ht
    have HT := Lib.hid ht
    have HF := Lib.hid hf
    clear ht hN hd hf
    go_enter Tryz.func162, Tryz.ntmps162
    go_wp2_with (go_at_call 185; refine (HT.out).mono ?_; rintro e w1 ⟨rfl, rfl⟩)
    go_ret3
    exact ⟨ret_iib (by rw [HF.out]) (by rw [HF.out]; rfl) (by rw [HF.out]), rfl⟩
  · have ht := tail_any c w hc.1 hc.2
    have hf : decF ((byts s).drop k) = (c, 1, true) := by rw [hd, decF, if_neg (by omega), if_pos hN]
    rw [hN] at ht
    have HT := Lib.hid ht
    have HF := Lib.hid hf
    clear ht hN hd hf
    go_enter Tryz.func162, Tryz.ntmps162
    go_wp2_with (go_at_call 185; refine (HT.out).mono ?_; rintro e w1 ⟨rfl, rfl⟩)
    go_ret3
    exact ⟨ret_iib (by rw [HF.out]) (by rw [HF.out]; rfl) (by rw [HF.out]), rfl⟩
  · have ht := tail_any c w hc.1 hc.2
    have hf : decF ((byts s).drop k) = decL 1 ((byts s).drop (k + 1)) (c % 32) 1 (tailLo c) (tailHi c) := by rw [hd, decF, if_neg (by omega), if_neg (by omega), hN]; rfl
    rw [hN] at ht
    have HT := Lib.hid ht
    have HF := Lib.hid hf
    clear ht hN hd hf
    have hm : bits .and .i64 c 31 = c % 32 := mask_i64 5 (by omega) c hc.1 (by omega)
    go_enter Tryz.func162, Tryz.ntmps162
    go_wp2_with (go_at_call 185; refine (HT.out).mono ?_; rintro e w1 ⟨rfl, rfl⟩)
    go_loopw [4, 5, 8, 9] (fun vp vz vl vh wr => ∃ (pt : Int) (sz : Nat) (lo hi : Int), 1 ≤ sz ∧ sz ≤ 2 ∧ 0 ≤ pt ∧ pt < 32 * 64 ^ (sz - 1) ∧ vp = .int .i64 pt ∧ vz = .int .i64 sz ∧ vl = .int .u8 lo ∧ vh = .int .u8 hi ∧ k + sz ≤ s.size ∧
      decL (2 - sz) ((byts s).drop (k + sz)) pt sz lo hi = decF ((byts s).drop k) ∧ w = wr) (fun _ z _ _ _ => 2 - (intOf z).toNat)
    case atStart => exact ⟨c % 32, 1, tailLo c, tailHi c, by omega, by omega, by omega, by omega, rfl, rfl, rfl, rfl, by omega, HF.out.symm, rfl⟩
    case round =>
      obtain ⟨pt, sz, lo, hi, hz1, hz2, hp0, hp1, rfl, rfl, rfl, rfl, hks, hdl, rfl⟩ := hrel
      have HDL := Lib.hid hdl
      clear hdl hm
      by_cases hlt : sz < 2
      · have hp2 : pt < 131072 := by
          have h3 : sz - 1 = 0 ∨ sz - 1 = 1 ∨ sz - 1 = 2 := by omega
          rcases h3 with h3 | h3 | h3 <;> rw [h3] at hp1 <;> omega
        have HP : Hid (pt * 64 + 63 < 32 * 64 ^ (sz + 1 - 1)) := by
          show _ < _
          rw [show sz + 1 - 1 = (sz - 1) + 1 by omega, Int.pow_succ]
          omega
        clear hp1
        by_cases hin : k + sz < s.size
        · have hd2 := byts_drop s (k + sz) hin
          have hc2 : (0 : Int) ≤ (s[k + sz].toNat : Int) ∧ (s[k + sz].toNat : Int) ≤ 255 := by have := s[k + sz].toNat_lt; omega
          have hx2 := run_index_str s (k + sz) hin
          obtain ⟨d, hdd⟩ : ∃ d, d = (s[k + sz].toNat : Int) := ⟨_, rfl⟩
          rw [← hdd] at hc2 hd2 hx2
          rw [show ((k + sz : Nat) : Int) = (k : Int) + (sz : Int) by omega] at hx2
          clear hdd
          have HS : Hid (decL (2 - sz) ((byts s).drop (k + sz)) pt sz lo hi = if d < lo ∨ hi < d then (0, sz, false) else decL (2 - (sz + 1)) ((byts s).drop (k + (sz + 1))) (pt * 64 + d % 64) (sz + 1) 128 191) := by
            show _ = _
            rw [show 2 - sz = (2 - (sz + 1)) + 1 by omega, hd2, decL]; rfl
          clear hd2
          by_cases hb1 : d < lo
          · go_wp2_with fail
            go_ret3
            have e := HDL.out
            rw [HS.out, if_pos (.inl hb1)] at e
            exact ⟨ret_iib (by rw [← e]) (by rw [← e]) (by rw [← e]), rfl⟩
          · by_cases hb2 : hi < d
            · go_wp2_with fail
              go_ret3
              have e := HDL.out
              rw [HS.out, if_pos (.inr hb2)] at e
              exact ⟨ret_iib (by rw [← e]) (by rw [← e]) (by rw [← e]), rfl⟩
            · have hm2 : bits .and .i64 d 63 = d % 64 := mask_i64 6 (by omega) d hc2.1 (by omega)
              have hj2 : bits .or .i64 (pt * 64) (d % 64) = pt * 64 + d % 64 := join_i64 6 pt (d % 64) hp0 (by omega) (by omega) (by omega)
              go_wp2_with fail
              go_roundw
              case rel =>
                have e := HDL.out
                rw [HS.out, if_neg (by omega)] at e
                exact ⟨pt * 64 + d % 64, sz + 1, 128, 191, by omega, by omega, by omega, by have := HP.out; omega, rfl, by go_num, rfl, rfl, by omega, e, by first | rfl | trivial⟩
              case measure => simp [intOf]; omega
        · have HS : Hid (decL (2 - sz) ((byts s).drop (k + sz)) pt sz lo hi = (0, sz, false)) := by
            show _ = _
            rw [show 2 - sz = (2 - (sz + 1)) + 1 by omega, show (byts s).drop (k + sz) = [] from List.drop_eq_nil_of_le (by rw [byts_len]; omega), decL]
          go_wp2_with fail
          go_ret3
          have e := HDL.out
          rw [HS.out] at e
          exact ⟨ret_iib (by rw [← e]) (by rw [← e]) (by rw [← e]), rfl⟩
      · have : sz = 2 := by omega
        subst this
        go_wp2_with fail
        go_ret3
        have e := HDL.out
        rw [Nat.sub_self, decL] at e
        exact ⟨ret_iib (by rw [← e]) (by rw [← e]) (by rw [← e]), rfl⟩
  · have ht := tail_any c w hc.1 hc.2
    have hf : decF ((byts s).drop k) = decL 2 ((byts s).drop (k + 1)) (c % 16) 1 (tailLo c) (tailHi c) := by rw [hd, decF, if_neg (by omega), if_neg (by omega), hN]; rfl
    rw [hN] at ht
    have HT := Lib.hid ht
    have HF := Lib.hid hf
    clear ht hN hd hf
    have hm : bits .and .i64 c 15 = c % 16 := mask_i64 4 (by omega) c hc.1 (by omega)
    go_enter Tryz.func162, Tryz.ntmps162
    go_wp2_with (go_at_call 185; refine (HT.out).mono ?_; rintro e w1 ⟨rfl, rfl⟩)
    go_loopw [4, 5, 8, 9] (fun vp vz vl vh wr => ∃ (pt : Int) (sz : Nat) (lo hi : Int), 1 ≤ sz ∧ sz ≤ 3 ∧ 0 ≤ pt ∧ pt < 32 * 64 ^ (sz - 1) ∧ vp = .int .i64 pt ∧ vz = .int .i64 sz ∧ vl = .int .u8 lo ∧ vh = .int .u8 hi ∧ k + sz ≤ s.size ∧
      decL (3 - sz) ((byts s).drop (k + sz)) pt sz lo hi = decF ((byts s).drop k) ∧ w = wr) (fun _ z _ _ _ => 3 - (intOf z).toNat)
    case atStart => exact ⟨c % 16, 1, tailLo c, tailHi c, by omega, by omega, by omega, by omega, rfl, rfl, rfl, rfl, by omega, HF.out.symm, rfl⟩
    case round =>
      obtain ⟨pt, sz, lo, hi, hz1, hz2, hp0, hp1, rfl, rfl, rfl, rfl, hks, hdl, rfl⟩ := hrel
      have HDL := Lib.hid hdl
      clear hdl hm
      by_cases hlt : sz < 3
      · have hp2 : pt < 131072 := by
          have h3 : sz - 1 = 0 ∨ sz - 1 = 1 ∨ sz - 1 = 2 := by omega
          rcases h3 with h3 | h3 | h3 <;> rw [h3] at hp1 <;> omega
        have HP : Hid (pt * 64 + 63 < 32 * 64 ^ (sz + 1 - 1)) := by
          show _ < _
          rw [show sz + 1 - 1 = (sz - 1) + 1 by omega, Int.pow_succ]
          omega
        clear hp1
        by_cases hin : k + sz < s.size
        · have hd2 := byts_drop s (k + sz) hin
          have hc2 : (0 : Int) ≤ (s[k + sz].toNat : Int) ∧ (s[k + sz].toNat : Int) ≤ 255 := by have := s[k + sz].toNat_lt; omega
          have hx2 := run_index_str s (k + sz) hin
          obtain ⟨d, hdd⟩ : ∃ d, d = (s[k + sz].toNat : Int) := ⟨_, rfl⟩
          rw [← hdd] at hc2 hd2 hx2
          rw [show ((k + sz : Nat) : Int) = (k : Int) + (sz : Int) by omega] at hx2
          clear hdd
          have HS : Hid (decL (3 - sz) ((byts s).drop (k + sz)) pt sz lo hi = if d < lo ∨ hi < d then (0, sz, false) else decL (3 - (sz + 1)) ((byts s).drop (k + (sz + 1))) (pt * 64 + d % 64) (sz + 1) 128 191) := by
            show _ = _
            rw [show 3 - sz = (3 - (sz + 1)) + 1 by omega, hd2, decL]; rfl
          clear hd2
          by_cases hb1 : d < lo
          · go_wp2_with fail
            go_ret3
            have e := HDL.out
            rw [HS.out, if_pos (.inl hb1)] at e
            exact ⟨ret_iib (by rw [← e]) (by rw [← e]) (by rw [← e]), rfl⟩
          · by_cases hb2 : hi < d
            · go_wp2_with fail
              go_ret3
              have e := HDL.out
              rw [HS.out, if_pos (.inr hb2)] at e
              exact ⟨ret_iib (by rw [← e]) (by rw [← e]) (by rw [← e]), rfl⟩
            · have hm2 : bits .and .i64 d 63 = d % 64 := mask_i64 6 (by omega) d hc2.1 (by omega)
              have hj2 : bits .or .i64 (pt * 64) (d % 64) = pt * 64 + d % 64 := join_i64 6 pt (d % 64) hp0 (by omega) (by omega) (by omega)
              go_wp2_with fail
              go_roundw
              case rel =>
                have e := HDL.out
                rw [HS.out, if_neg (by omega)] at e
                exact ⟨pt * 64 + d % 64, sz + 1, 128, 191, by omega, by omega, by omega, by have := HP.out; omega, rfl, by go_num, rfl, rfl, by omega, e, by first | rfl | trivial⟩
              case measure => simp [intOf]; omega
        · have HS : Hid (decL (3 - sz) ((byts s).drop (k + sz)) pt sz lo hi = (0, sz, false)) := by
            show _ = _
            rw [show 3 - sz = (3 - (sz + 1)) + 1 by omega, show (byts s).drop (k + sz) = [] from List.drop_eq_nil_of_le (by rw [byts_len]; omega), decL]
          go_wp2_with fail
          go_ret3
          have e := HDL.out
          rw [HS.out] at e
          exact ⟨ret_iib (by rw [← e]) (by rw [← e]) (by rw [← e]), rfl⟩
      · have : sz = 3 := by omega
        subst this
        go_wp2_with fail
        go_ret3
        have e := HDL.out
        rw [Nat.sub_self, decL] at e
        exact ⟨ret_iib (by rw [← e]) (by rw [← e]) (by rw [← e]), rfl⟩
  · have ht := tail_any c w hc.1 hc.2
    have hf : decF ((byts s).drop k) = decL 3 ((byts s).drop (k + 1)) (c % 8) 1 (tailLo c) (tailHi c) := by rw [hd, decF, if_neg (by omega), if_neg (by omega), hN]; rfl
    rw [hN] at ht
    have HT := Lib.hid ht
    have HF := Lib.hid hf
    clear ht hN hd hf
    have hm : bits .and .i64 c 7 = c % 8 := mask_i64 3 (by omega) c hc.1 (by omega)
    go_enter Tryz.func162, Tryz.ntmps162
    go_wp2_with (go_at_call 185; refine (HT.out).mono ?_; rintro e w1 ⟨rfl, rfl⟩)
    go_loopw [4, 5, 8, 9] (fun vp vz vl vh wr => ∃ (pt : Int) (sz : Nat) (lo hi : Int), 1 ≤ sz ∧ sz ≤ 4 ∧ 0 ≤ pt ∧ pt < 32 * 64 ^ (sz - 1) ∧ vp = .int .i64 pt ∧ vz = .int .i64 sz ∧ vl = .int .u8 lo ∧ vh = .int .u8 hi ∧ k + sz ≤ s.size ∧
      decL (4 - sz) ((byts s).drop (k + sz)) pt sz lo hi = decF ((byts s).drop k) ∧ w = wr) (fun _ z _ _ _ => 4 - (intOf z).toNat)
    case atStart => exact ⟨c % 8, 1, tailLo c, tailHi c, by omega, by omega, by omega, by omega, rfl, rfl, rfl, rfl, by omega, HF.out.symm, rfl⟩
    case round =>
      obtain ⟨pt, sz, lo, hi, hz1, hz2, hp0, hp1, rfl, rfl, rfl, rfl, hks, hdl, rfl⟩ := hrel
      have HDL := Lib.hid hdl
      clear hdl hm
      by_cases hlt : sz < 4
      · have hp2 : pt < 131072 := by
          have h3 : sz - 1 = 0 ∨ sz - 1 = 1 ∨ sz - 1 = 2 := by omega
          rcases h3 with h3 | h3 | h3 <;> rw [h3] at hp1 <;> omega
        have HP : Hid (pt * 64 + 63 < 32 * 64 ^ (sz + 1 - 1)) := by
          show _ < _
          rw [show sz + 1 - 1 = (sz - 1) + 1 by omega, Int.pow_succ]
          omega
        clear hp1
        by_cases hin : k + sz < s.size
        · have hd2 := byts_drop s (k + sz) hin
          have hc2 : (0 : Int) ≤ (s[k + sz].toNat : Int) ∧ (s[k + sz].toNat : Int) ≤ 255 := by have := s[k + sz].toNat_lt; omega
          have hx2 := run_index_str s (k + sz) hin
          obtain ⟨d, hdd⟩ : ∃ d, d = (s[k + sz].toNat : Int) := ⟨_, rfl⟩
          rw [← hdd] at hc2 hd2 hx2
          rw [show ((k + sz : Nat) : Int) = (k : Int) + (sz : Int) by omega] at hx2
          clear hdd
          have HS : Hid (decL (4 - sz) ((byts s).drop (k + sz)) pt sz lo hi = if d < lo ∨ hi < d then (0, sz, false) else decL (4 - (sz + 1)) ((byts s).drop (k + (sz + 1))) (pt * 64 + d % 64) (sz + 1) 128 191) := by
            show _ = _
            rw [show 4 - sz = (4 - (sz + 1)) + 1 by omega, hd2, decL]; rfl
          clear hd2
          by_cases hb1 : d < lo
          · go_wp2_with fail
            go_ret3
            have e := HDL.out
            rw [HS.out, if_pos (.inl hb1)] at e
            exact ⟨ret_iib (by rw [← e]) (by rw [← e]) (by rw [← e]), rfl⟩
          · by_cases hb2 : hi < d
            · go_wp2_with fail
              go_ret3
              have e := HDL.out
              rw [HS.out, if_pos (.inr hb2)] at e
              exact ⟨ret_iib (by rw [← e]) (by rw [← e]) (by rw [← e]), rfl⟩
            · have hm2 : bits .and .i64 d 63 = d % 64 := mask_i64 6 (by omega) d hc2.1 (by omega)
              have hj2 : bits .or .i64 (pt * 64) (d % 64) = pt * 64 + d % 64 := join_i64 6 pt (d % 64) hp0 (by omega) (by omega) (by omega)
              go_wp2_with fail
              go_roundw
              case rel =>
                have e := HDL.out
                rw [HS.out, if_neg (by omega)] at e
                exact ⟨pt * 64 + d % 64, sz + 1, 128, 191, by omega, by omega, by omega, by have := HP.out; omega, rfl, by go_num, rfl, rfl, by omega, e, by first | rfl | trivial⟩
              case measure => simp [intOf]; omega
        · have HS : Hid (decL (4 - sz) ((byts s).drop (k + sz)) pt sz lo hi = (0, sz, false)) := by
            show _ = _
            rw [show 4 - sz = (4 - (sz + 1)) + 1 by omega, show (byts s).drop (k + sz) = [] from List.drop_eq_nil_of_le (by rw [byts_len]; omega), decL]
          go_wp2_with fail
          go_ret3
          have e := HDL.out
          rw [HS.out] at e
          exact ⟨ret_iib (by rw [← e]) (by rw [← e]) (by rw [← e]), rfl⟩
      · have : sz = 4 := by omega
        subst this
        go_wp2_with fail
        go_ret3
        have e := HDL.out
        rw [Nat.sub_self, decL] at e
        exact ⟨ret_iib (by rw [← e]) (by rw [← e]) (by rw [← e]), rfl⟩
end Go.Proofs.YthbodpjkckminaaGreatDoor

namespace Go.Proofs.YthbodpjkckminaaGreatDoor
open Go.RowKit

set_option maxHeartbeats 1000000 in
theorem first_any (s : ByteArray) (w : World) (hs : s.size ≤ maxLen) :
    Calls Tryz.prog 129 #[.string s] w fun e w' => e = .returned (.int .i64 (firstF (s.size + 1) 0 (byts s))) ∧ w = w' := by
  unfold maxLen at hs
  go_enter Tryz.func129, Tryz.ntmps129
  go_wp2_with fail
  go_loopw [3] (fun vi wr => ∃ (k f : Nat), k ≤ s.size ∧ s.size - k < f ∧ vi = .int .i64 k ∧ firstF f k ((byts s).drop k) = firstF (s.size + 1) 0 (byts s) ∧ w = wr) (fun i _ => s.size - (intOf i).toNat)
  case atStart => exact ⟨0, s.size + 1, Nat.zero_le _, by omega, rfl, rfl, rfl⟩
  case round =>
    obtain ⟨k, f, hk, hf, rfl, hr, rfl⟩ := hrel
    obtain ⟨f, rfl⟩ : ∃ f', f = f' + 1 := ⟨f - 1, by omega⟩
    by_cases hlt : k < s.size
    · have hd := byts_drop s k hlt
      rw [hd, firstF, ← hd] at hr
      have hsz := decF_sz ((byts s).drop k)
      have hbl := byts_len s
      rw [List.length_drop, hbl] at hsz
      have hdc := decode_any s k w hlt (by unfold maxLen; omega)
      obtain ⟨d, hdd⟩ : ∃ d, d = decF ((byts s).drop k) := ⟨_, rfl⟩
      rw [← hdd] at hr hsz hdc
      obtain ⟨p, z, ok⟩ := d
      clear hdd hd hbl
      cases ok
      · have HR := Lib.hid hr
        have HDC := Lib.hid hdc
        clear hr hdc hsz
        go_wp2_with (go_at_call 162; refine (HDC.out).mono ?_; rintro e w1 ⟨rfl, rfl⟩)
        go_ret
        exact ⟨ret_int HR.out, rfl⟩
      · obtain ⟨z1, z2, z3⟩ := hsz rfl
        have HR := Lib.hid hr
        have HDC := Lib.hid hdc
        simp only at z1 z2 z3
        clear hr hdc hsz
        go_wp2_with (go_at_call 162; refine (HDC.out).mono ?_; rintro e w1 ⟨rfl, rfl⟩)
        go_roundw
        case rel => exact ⟨k + z, f, by omega, by omega, by go_num, by have h := HR.out; rw [List.drop_drop] at h; simpa using h, by first | rfl | trivial⟩
        case measure => simp [intOf]; omega
    · have : k = s.size := by omega
      subst this
      rw [List.drop_eq_nil_of_le (by rw [byts_len]; omega), firstF] at hr
      have HR := Lib.hid hr
      clear hr
      go_wp2_with fail
      go_ret
      exact ⟨ret_int HR.out, rfl⟩

theorem valid_any (s : ByteArray) (w : World) (hs : s.size ≤ maxLen) :
    Calls Tryz.prog 92 #[.string s] w fun e w' => e = .returned (.bool (ptsO (byts s)).isSome) ∧ w = w' := by
  have hn := firstF_neg (s.size + 1) 0 (byts s) (by rw [byts_len]; omega)
  by_cases hv : (ptsO (byts s)).isSome = true
  · have h := hn.2 hv
    have HV := Lib.hid hv
    clear hn hv
    go_enter Tryz.func92, Tryz.ntmps92
    go_wp2_with (go_at_call 129; refine (first_any s w hs).mono ?_; rintro e w1 ⟨rfl, rfl⟩)
    go_ret
    exact ⟨ret_bool (by rw [HV.out]), rfl⟩
  · have h : ¬ firstF (s.size + 1) 0 (byts s) < 0 := fun h => hv (hn.1 h)
    have hv : (ptsO (byts s)).isSome = false := by simpa using hv
    have HV := Lib.hid hv
    clear hn hv
    go_enter Tryz.func92, Tryz.ntmps92
    go_wp2_with (go_at_call 129; refine (first_any s w hs).mono ?_; rintro e w1 ⟨rfl, rfl⟩)
    go_ret
    exact ⟨ret_bool (by rw [HV.out, decide_eq_false_iff_not]; omega), rfl⟩

end Go.Proofs.YthbodpjkckminaaGreatDoor
