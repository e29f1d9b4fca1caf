/-
  NUMBERS: the conditions' shifts and masks as sums and quotients; rows of words as numbers. | SLICES: what a slice holds, cuts of it, new ones; bytes, and numbers as bytes. | CONTRACTS: limb, portion, votes.More. | CONTRACTS: limb.Bytes, limb.Of, digest.number, portion.Total, votes.More. | SLICES THAT GROW: a slice that stands in a block of its own, and append. | SHA: what both programs compute, in plain Lean; words of 32 bits. | CONTRACTS: sha. | CONTRACTS: sha.press. | CONTRACTS: sha.Write, Copy, New, Sum. | CONTRACTS: sha.Sum. | CONTRACTS: digest.Tagged, pool.Name.
-/
import Derived.Test.YtpcgkfgppfjnlaaGreatDoorMb
import Derived.Test.YtpcgkfgppfjnlaaGreatDoorProg
import Derived.Test.YtpcgkfgppfjnlaaGreatDoorMc
namespace Go.Proofs.YtpcgkfgppfjnlaaGreatDoor.V
open Go Go.RowKit

theorem wrap_uns {k : IntKind} (hk : k.signed = false) (x : Int) : k.wrap x = x % (2 ^ k.bits : Int) := by
  simp [IntKind.wrap, hk]
theorem ofInt_toNat {n : Nat} {x : Int} (h : 0 ≤ x) (h2 : x < 2 ^ n) : (BitVec.ofInt n x).toNat = x.toNat := by
  rw [BitVec.toNat_ofInt]
  have e : ((2 ^ n : Nat) : Int) = (2 : Int) ^ n := by simp
  rw [e, Int.emod_eq_of_lt h h2]
theorem iand_mask {k : IntKind} (hk : k.signed = false) {x : Int} {n : Nat} (h : 0 ≤ x) (h2 : x < 2 ^ k.bits) (hn : n ≤ k.bits) : iand k x ((2 : Int) ^ n - 1) = x % 2 ^ n := by
  have p1 : (0 : Int) < 2 ^ n := Int.pow_pos (by decide)
  have p2 : (2 : Int) ^ n ≤ 2 ^ k.bits := by exact_mod_cast Nat.pow_le_pow_right (by decide) hn
  have e1 : ((2 : Int) ^ n - 1).toNat = 2 ^ n - 1 := by
    have : ((2 ^ n : Nat) : Int) = (2 : Int) ^ n := by simp
    omega
  unfold iand
  rw [wrap_uns hk, BitVec.toNat_and, ofInt_toNat h h2, ofInt_toNat (by omega) (by omega), e1, Nat.and_two_pow_sub_one_eq_mod]
  obtain ⟨m, rfl⟩ : ∃ m : Nat, x = m := ⟨x.toNat, by omega⟩
  have e2 : ((m : Int).toNat % 2 ^ n : Nat) = m % 2 ^ n := by simp
  rw [e2]
  have e3 : ((m % 2 ^ n : Nat) : Int) = (m : Int) % 2 ^ n := by simp
  rw [e3]
  apply Int.emod_eq_of_lt
  · exact Int.emod_nonneg _ (by omega)
  · have := Int.emod_lt_of_pos (m : Int) (b := 2 ^ n) (by omega)
    omega
theorem ior_add {k : IntKind} (hk : k.signed = false) {a b : Int} {n : Nat} (ha : 0 ≤ a) (hb : 0 ≤ b) (hb2 : b < 2 ^ n) (hd : a % 2 ^ n = 0) (hs : a + b < 2 ^ k.bits) : ior k a b = a + b := by
  obtain ⟨x, rfl⟩ : ∃ m : Nat, a = m := ⟨a.toNat, by omega⟩
  obtain ⟨y, rfl⟩ : ∃ m : Nat, b = m := ⟨b.toNat, by omega⟩
  unfold ior
  rw [wrap_uns hk, BitVec.toNat_or, ofInt_toNat ha (by omega), ofInt_toNat hb (by omega)]
  have hy : y < 2 ^ n := by exact_mod_cast hb2
  have hx : x % 2 ^ n = 0 := by exact_mod_cast hd
  have e : x ||| y = x + y := by
    have e0 : x = 2 ^ n * (x / 2 ^ n) := by
      have := Nat.div_add_mod x (2 ^ n)
      omega
    rw [e0, ← Nat.two_pow_add_eq_or_of_lt hy]
  simp only [Int.toNat_natCast]
  rw [e]
  have : ((x + y : Nat) : Int) = (x : Int) + y := by simp
  rw [this]
  exact Int.emod_eq_of_lt (by omega) hs
theorem ishr_pos {k : IntKind} {x : Int} (n : Nat) (_ : 0 ≤ x) (hn : n ≤ k.bits) : ishr k x (n : Int) = x / 2 ^ n := by
  unfold ishr
  rw [Int.toNat_natCast, Nat.min_eq_left hn, Int.fdiv_eq_ediv_of_nonneg _ (Int.pow_nonneg (by decide))]
theorem ishl_mul {k : IntKind} {x : Int} (n : Nat) (hn : n ≤ k.bits) : ishl k x (n : Int) = k.wrap (x * 2 ^ n) := by
  unfold ishl
  rw [Int.toNat_natCast, Nat.min_eq_left hn]

theorem lo32 {x : Int} (h : 0 ≤ x) (h2 : x < 18446744073709551616) : iand .u64 x 4294967295 = x % 4294967296 := iand_mask (k := .u64) (n := 32) rfl h h2 (by decide)
theorem hi32 {x : Int} (h : 0 ≤ x) : ishr .u64 x 32 = x / 4294967296 := ishr_pos (k := .u64) 32 h (by decide)

/-- words as a number -/
def sv (d : Nat → Int) : Nat → Int
  | 0 => 0
  | n + 1 => sv d n + d n * (18446744073709551616 ^ n : Int)
theorem sv_upd_ge (d : Nat → Int) (j : Nat) (v : Int) : ∀ n, n ≤ j → sv (upd d j v) n = sv d n
  | 0, _ => rfl
  | n + 1, h => by
    rw [sv, sv, sv_upd_ge d j v n (by omega), upd_ne _ _ _ _ (by omega)]
theorem sv_upd (d : Nat → Int) (j : Nat) (v : Int) : ∀ n, j < n → sv (upd d j v) n = sv d n + (v - d j) * (18446744073709551616 ^ j : Int)
  | n + 1, h => by
    rcases Nat.lt_or_ge j n with h1 | h1
    · rw [sv, sv, sv_upd d j v n h1, upd_ne _ _ _ _ (by omega)]
      grind
    · obtain rfl : j = n := by omega
      rw [sv, sv, sv_upd_ge _ _ _ _ (Nat.le_refl _), upd_at]
      grind
theorem sv_nonneg {d : Nat → Int} : ∀ {n : Nat}, U64 d n → 0 ≤ sv d n
  | 0, _ => Int.le_refl 0
  | n + 1, h => by
    have h1 := sv_nonneg (n := n) fun i hi => h i (by omega)
    have h2 := Int.mul_nonneg (h n (by omega)).1 (Int.pow_nonneg (n := 18446744073709551616) (m := n) (by decide))
    simp only [sv]
    omega
theorem sv_lt {d : Nat → Int} : ∀ {n : Nat}, U64 d n → sv d n < 18446744073709551616 ^ n
  | 0, _ => by simp [sv]
  | n + 1, h => by
    have h1 := sv_lt (n := n) fun i hi => h i (by omega)
    have h2 : (d n + 1) * (18446744073709551616 ^ n : Int) ≤ 18446744073709551616 * 18446744073709551616 ^ n := Int.mul_le_mul_of_nonneg_right (by have := (h n (by omega)).2; omega) (Int.pow_nonneg (by decide))
    simp only [sv, Int.pow_succ]
    rw [Int.add_mul] at h2
    omega
/-- words are told by their number -/
theorem sv_inj {d e : Nat → Int} : ∀ {n : Nat}, U64 d n → U64 e n → sv d n = sv e n → ∀ i, i < n → d i = e i
  | n + 1, hd, he, h, i, hi => by
    have a1 := sv_nonneg (n := n) fun i hi => hd i (by omega)
    have a2 := sv_lt (n := n) fun i hi => hd i (by omega)
    have b1 := sv_nonneg (n := n) fun i hi => he i (by omega)
    have b2 := sv_lt (n := n) fun i hi => he i (by omega)
    simp only [sv] at h
    have hn : d n = e n := by
      have hp : (0 : Int) < 18446744073709551616 ^ n := Int.pow_pos (by decide)
      rcases Int.lt_trichotomy (d n) (e n) with q | q | q
      · have := Int.mul_le_mul_of_nonneg_right (c := 18446744073709551616 ^ n) (show d n + 1 ≤ e n by omega) (by omega)
        rw [Int.add_mul] at this
        omega
      · exact q
      · have := Int.mul_le_mul_of_nonneg_right (c := 18446744073709551616 ^ n) (show e n + 1 ≤ d n by omega) (by omega)
        rw [Int.add_mul] at this
        omega
    rcases Nat.lt_or_ge i n with h1 | h1
    · exact sv_inj (n := n) (fun i hi => hd i (by omega)) (fun i hi => he i (by omega)) (by rw [hn] at h; omega) i h1
    · obtain rfl : i = n := by omega
      exact hn
theorem sv4 (d : Nat → Int) : sv d 4 = d 0 + d 1 * 18446744073709551616 + d 2 * 340282366920938463463374607431768211456 + d 3 * 6277101735386680763835789423207666416102355444464034512896 := by
  simp [sv]
end Go.Proofs.YtpcgkfgppfjnlaaGreatDoor.V
namespace Go.Proofs.YtpcgkfgppfjnlaaGreatDoor.V
open Go Go.RowKit
variable {P : Program}

/-- what a slice of elements of a size holds -/
def SlC (w : World) (s : Sl) (sz : Nat) (vs : List Value) : Prop :=
  vs.length = s.len * sz ∧ s.len ≤ s.cap ∧
  match s.p with
  | none => s.cap = 0
  | some a => s.cap ≠ 0 → a.spot = none ∧ a.block < w.heap.size ∧ atC w a 0 vs
/-- the block that a slice stands in -/
def Sl.in (s : Sl) (S : Nat → Prop) : Prop :=
  match s.p with
  | none => False
  | some a => s.cap ≠ 0 ∧ S a.block
theorem SlC.fr {w w' : World} {s : Sl} {sz : Nat} {vs : List Value} (h : SlC w s sz vs) {S : Nat → Prop} (hf : Fr S w w') (hn : ¬ s.in S) : SlC w' s sz vs := by
  obtain ⟨p, n, c⟩ := s
  obtain ⟨h1, h2, h3⟩ := h
  refine ⟨h1, h2, ?_⟩
  cases p with
  | none => exact h3
  | some a => exact fun hc => ⟨(h3 hc).1, Nat.lt_of_lt_of_le (h3 hc).2.1 hf.size, (h3 hc).2.2.fr hf fun hs => hn ⟨hc, hs⟩⟩
theorem SlC.fr0 {w w' : World} {s : Sl} {sz : Nat} {vs : List Value} (h : SlC w s sz vs) (hf : Fr F0 w w') : SlC w' s sz vs :=
  h.fr hf (by unfold Sl.in; split <;> simp)
theorem atC_iff {w : World} {b o : Nat} : ∀ {vs : List Value} {k : Nat}, atC w ⟨b, o, none⟩ k vs ↔ ∀ i, ∀ v, vs[i]? = some v → w.cell? ⟨b, o + k + i, none⟩ = some v
  | [], k => by simp [atC]
  | u :: vs, k => by
    simp only [atC, add_lit]
    constructor
    · rintro ⟨h1, h2⟩ i v hv
      cases i with
      | zero => simp at hv; subst hv; exact h1
      | succ i =>
        have := atC_iff.mp h2 i v (by simpa using hv)
        rwa [show o + k + (i + 1) = o + (k + 1) + i by omega]
    · intro h
      refine ⟨by simpa using h 0 u (by simp), atC_iff.mpr fun i v hv => ?_⟩
      have := h (i + 1) v (by simpa using hv)
      rwa [show o + (k + 1) + i = o + k + (i + 1) by omega]
/-- a part of what lies there -/
theorem atC.part {w : World} {a : Addr} (ha : a.spot = none) {vs us : List Value} {k j : Nat} (h : atC w a k vs) (hp : ∀ i, i < us.length → us[i]? = vs[j + i]?) : atC w a (k + j) us := by
  obtain ⟨b, o, s⟩ := a
  obtain rfl : s = none := ha
  rw [atC_iff] at h ⊢
  intro i v hv
  have hi : i < us.length := by
    rcases Nat.lt_or_ge i us.length with h1 | h1
    · exact h1
    · rw [List.getElem?_eq_none h1] at hv; simp at hv
  have := h (j + i) v (by rw [← hp i hi]; exact hv)
  rwa [show o + (k + j) + i = o + k + (j + i) by omega]
theorem atC.shift {w : World} {a : Addr} (ha : a.spot = none) {vs : List Value} {k j : Nat} : atC w (a.add k) j vs ↔ atC w a (k + j) vs := by
  obtain ⟨b, o, s⟩ := a
  obtain rfl : s = none := ha
  rw [add_lit, atC_iff, atC_iff]
  simp only [show o + k + j = o + (k + j) by omega]
/-- one cell of a slice of one-cell elements -/
theorem SlC.rd {w : World} {s : Sl} {vs : List Value} (h : SlC w s 1 vs) {i : Int} (hi : 0 ≤ i) (hi2 : i < s.len) {k : Kd} {K : KT k → Prop} {x : KT k} {v : Value} (hk : cellsK k x = [v]) (hv : vs[i.toNat]? = some v) (hK : K x) :
    nn s.p fun a => V.rd k w (Addr.add a (i.toNat * 1)) 0 K := by
  obtain ⟨p, n, c⟩ := s
  obtain ⟨h1, h2, h3⟩ := h
  cases p with
  | none => simp only at h3 h2 hi2; omega
  | some a =>
    have h3 := h3 (show c ≠ 0 by have h2 : n ≤ c := h2; have hi2 : i < (n : Int) := hi2; omega)
    refine ⟨x, ?_, hK⟩
    rw [hk, Nat.mul_one, atC.shift h3.1, Nat.add_comm]
    refine h3.2.2.part h3.1 fun j hj => ?_
    simp at hj
    subst hj
    simpa using hv.symm
/-- a slice cut out of a slice -/
theorem SlC.cut {w : World} {s : Sl} {sz : Nat} {vs : List Value} (h : SlC w s sz vs) {l e : Nat} (hl : l ≤ e) (he : e ≤ s.len) :
    SlC w ⟨cutAt s.p s.cap l sz, e - l, s.cap - l⟩ sz ((vs.drop (l * sz)).take ((e - l) * sz)) := by
  obtain ⟨p, n, c⟩ := s
  obtain ⟨h1, h2, h3⟩ := h
  simp only at h1 h2 he h3
  have hm : e * sz ≤ n * sz := Nat.mul_le_mul_right _ he
  have hm2 : e * sz = l * sz + (e - l) * sz := by rw [← Nat.add_mul, Nat.add_sub_cancel' hl]
  refine ⟨?_, ?_, ?_⟩
  · rw [List.length_take, List.length_drop, h1]
    simp only
    omega
  · simp only; omega
  · simp only [cutAt]
    cases p with
    | none =>
      simp only at h3
      have : (if c = l then (none : Option Addr) else none.map (fun x : Addr => x.add (l * sz))) = none := by split <;> rfl
      rw [this]
      simp only; omega
    | some a =>
      by_cases hcl : c = l
      · rw [if_pos hcl]
        intro hc
        have hc : c - l ≠ 0 := hc
        omega
      · rw [if_neg hcl]
        intro hc
        have hc : c - l ≠ 0 := hc
        have h3 := h3 (show c ≠ 0 by omega)
        refine ⟨?_, ?_, ?_⟩
        · show (a.add (l * sz)).spot = none
          obtain ⟨b, o, q⟩ := a
          obtain rfl : q = none := h3.1
          rw [add_lit]
        · show (a.add (l * sz)).block < _
          rw [add_block]; exact h3.2.1
        · show atC w (a.add (l * sz)) 0 _
          rw [atC.shift h3.1]
          have := h3.2.2.part (us := (vs.drop (l * sz)).take ((e - l) * sz)) (j := l * sz) h3.1 fun i hi => by
            rw [List.getElem?_take, if_pos (by simp at hi; omega), List.getElem?_drop]
          simpa using this
/-- a whole block as a slice -/
theorem Lo.slc {S : Nat → Prop} {w0 w : World} {L : List (Nat × Bk)} (m : Lo S w0 w L) (i : Nat) {b : Nat} {cs : List Value} (h : L[i]? = some (b, .cs cs)) {n c sz : Nat} (hn : n * sz ≤ cs.length) (hc : n ≤ c) :
    SlC w ⟨some ⟨b, 0, none⟩, n, c⟩ sz (cs.take (n * sz)) := by
  refine ⟨?_, hc, fun _ => ⟨rfl, (m.at i h).lt, Own.at (m.at i h) fun j hj => ?_⟩⟩
  · rw [List.length_take]; simp only; omega
  · rw [List.length_take] at hj
    rw [List.getElem?_take, if_pos (by omega)]
    simp
theorem SlC.src {w : World} {s : Sl} {sz : Nat} {vs : List Value} (h : SlC w s sz vs) : srcIs w sz s.v s.len vs := by
  obtain ⟨p, n, c⟩ := s
  obtain ⟨h1, h2, h3⟩ := h
  cases p with
  | none =>
    simp only at h1 h2 h3
    have : n = 0 := by omega
    subst this
    simp at h1
    exact ⟨h1, rfl⟩
  | some a =>
    refine ⟨Nat.le_refl _, h1, ?_⟩
    by_cases hc : c = 0
    · obtain rfl : vs = [] := List.length_eq_zero_iff.mp (by rw [h1]; simp only at h2 ⊢; rw [show n = 0 by omega]; simp)
      trivial
    · exact (h3 hc).2.2
theorem SlC.srcn {w : World} {s : Sl} {sz n : Nat} {vs : List Value} (h : SlC w s sz vs) (hn : n ≤ s.len) : srcIs w sz s.v n (vs.take (n * sz)) := by
  obtain ⟨p, k, c⟩ := s
  obtain ⟨h1, h2, h3⟩ := h
  have hm : n * sz ≤ k * sz := Nat.mul_le_mul_right _ hn
  simp only at h1
  cases p with
  | none =>
    simp only at h1 h2 h3 hn
    have : n = 0 := by omega
    subst this
    exact ⟨by simp, rfl⟩
  | some a =>
    refine ⟨hn, by rw [List.length_take]; omega, ?_⟩
    by_cases hc : c = 0
    · simp only at h2 hn
      rw [show n = 0 by omega, Nat.zero_mul, List.take_zero]
      trivial
    have := (h3 hc).2.2.part (us := vs.take (n * sz)) (j := 0) (h3 hc).1 fun i hi => by
      rw [List.length_take] at hi
      rw [List.getElem?_take, if_pos (by omega), Nat.zero_add]
    simpa using this

theorem SlC.out {w : World} {s : Sl} {sz : Nat} {vs : List Value} (h : SlC w s sz vs) {b : Nat} (hb : w.heap.size ≤ b) : ¬ s.in (· = b) := by
  obtain ⟨p, n, c⟩ := s
  obtain ⟨h1, h2, h3⟩ := h
  cases p with
  | none => exact id
  | some a =>
    intro x
    have x1 : a.block = b := x.2
    have := (h3 x.1).2.1
    omega
theorem SlC.inlt {w : World} {s : Sl} {sz : Nat} {vs : List Value} (h : SlC w s sz vs) {S : Nat → Prop} (hs : ∀ b, S b → w.heap.size ≤ b) : ¬ s.in S := by
  obtain ⟨p, n, c⟩ := s
  obtain ⟨h1, h2, h3⟩ := h
  cases p with
  | none => exact id
  | some a =>
    intro x
    have := hs a.block x.2
    have := (h3 x.1).2.1
    omega

/-- a slice that stands in a new block, or nowhere -/
def Sl.fresh (s : Sl) (w : World) : Prop := ∀ a, s.p = some a → s.cap ≠ 0 → w.heap.size ≤ a.block
theorem Sl.fresh.out {s : Sl} {w : World} (h : s.fresh w) {S : Nat → Prop} (hs : ∀ b, S b → b < w.heap.size) : ¬ s.in S := by
  obtain ⟨p, n, c⟩ := s
  cases p with
  | none => exact id
  | some a =>
    intro x
    have := hs a.block x.2
    have := h a rfl x.1
    omega
theorem Sl.fresh.cut {s : Sl} {w : World} (h : s.fresh w) {l sz n m : Nat} (hm : m ≤ s.cap) : (Sl.mk (cutAt s.p s.cap l sz) n m).fresh w := by
  obtain ⟨p, k, c⟩ := s
  intro a ha hc
  have hc : m ≠ 0 := hc
  have hm : m ≤ c := hm
  have hq : c ≠ 0 := by omega
  simp only [cutAt] at ha
  cases p with
  | none => split at ha <;> simp at ha
  | some b =>
    split at ha
    · exact h a ha hq
    · simp at ha
      rw [← ha, add_block]
      exact h b rfl hq
theorem Sl.fresh.mono {s : Sl} {w w0 : World} (h : s.fresh w) (hw : w0.heap.size ≤ w.heap.size) : s.fresh w0 := fun a ha hc => Nat.le_trans hw (h a ha hc)
theorem Sl.out_ne {b c n k : Nat} (h : b ≠ c) : ¬ (Sl.mk (some ⟨b, 0, none⟩) n k).in (· = c) := fun x => h x.2

/-! bytes -/
def bv (l : List UInt8) : List Value := l.map fun b => .int .u8 (b.toNat : Int)
theorem bv_len (l : List UInt8) : (bv l).length = l.length := by simp [bv]
theorem bv_get (l : List UInt8) (i : Nat) : (bv l)[i]? = l[i]?.map fun b => .int .u8 (b.toNat : Int) := by simp [bv]
theorem bv_app (l k : List UInt8) : bv (l ++ k) = bv l ++ bv k := by simp [bv]
theorem bv_scal (l : List UInt8) : ∀ v ∈ bv l, scal v = true := by
  intro v hv
  obtain ⟨b, _, rfl⟩ := List.mem_map.mp hv
  rfl
theorem bv_inj {l k : List UInt8} (h : bv l = bv k) : l = k := by
  refine (List.map_inj_right (fun a b e => ?_)).mp h
  have : (a.toNat : Int) = b.toNat := by simpa using e
  exact UInt8.toNat_inj.mp (by omega)
abbrev By (w : World) (s : Sl) (l : List UInt8) : Prop := SlC w s 1 (bv l)
theorem By.len {w : World} {s : Sl} {l : List UInt8} (h : By w s l) : s.len = l.length := by have := h.1; rw [bv_len] at this; omega
theorem By.cut {w : World} {s : Sl} {l : List UInt8} (h : By w s l) {i e : Nat} (hl : i ≤ e) (he : e ≤ s.len) : By w ⟨cutAt s.p s.cap i 1, e - i, s.cap - i⟩ ((l.drop i).take (e - i)) := by
  have := SlC.cut h hl he
  unfold By
  rw [show bv ((l.drop i).take (e - i)) = ((bv l).drop (i * 1)).take ((e - i) * 1) by simp [bv, List.map_take, List.map_drop]]
  exact this
theorem By.rd {w : World} {s : Sl} {l : List UInt8} (h : By w s l) {i : Int} (hi : 0 ≤ i) (hi2 : i < s.len) {K : Int → Prop} (hK : ∀ b : UInt8, l[i.toNat]? = some b → K (b.toNat : Int)) :
    nn s.p fun a => V.rd (.int .u8) w (Addr.add a (i.toNat * 1)) 0 K := by
  have hlen := h.len
  have hlt : i.toNat < l.length := by omega
  refine SlC.rd h hi hi2 (k := .int .u8) (x := ((l[i.toNat]).toNat : Int)) rfl ?_ (hK _ (List.getElem?_eq_getElem hlt))
  rw [bv_get, List.getElem?_eq_getElem hlt]
  rfl
theorem By.at {w : World} {a : Addr} {n c : Nat} {l : List UInt8} (h : By w ⟨some a, n, c⟩ l) : atC w a 0 (bv l) := by
  by_cases hc : c = 0
  · subst hc
    obtain rfl : l = [] := List.length_eq_zero_iff.mp (by have h1 := h.len; have h2 := h.2.1; simp only at h1 h2; omega)
    trivial
  · exact (h.2.2 hc).2.2
/-- a row of numbers that are bytes -/
theorem cellsA_bv {d : Nat → Int} {l : List UInt8} (h : ∀ i b, l[i]? = some b → d i = (b.toNat : Int)) : cellsA .u8 d 0 l.length = bv l := by
  apply List.ext_getElem?; intro i
  rw [cellsA_get, bv_get]
  split
  · rename_i hi
    rw [Nat.zero_add, h i _ (List.getElem?_eq_getElem hi), List.getElem?_eq_getElem hi]
    rfl
  · rw [List.getElem?_eq_none (by omega)]
    rfl
theorem bv_cellsA (l : List UInt8) : bv l = cellsA .u8 (fun i => ((l[i]?.getD 0).toNat : Int)) 0 l.length :=
  (cellsA_bv fun i b hb => by simp [hb]).symm

/-- a number as n bytes, the highest one first -/
def be (n : Nat) (N : Nat) : List UInt8 := (List.range n).map fun k => UInt8.ofNat (N / 256 ^ (n - 1 - k))
theorem be_len (n N : Nat) : (be n N).length = n := by simp [be]
theorem be_get {n N i : Nat} (h : i < n) : (be n N)[i]? = some (UInt8.ofNat (N / 256 ^ (n - 1 - i))) := by
  simp [be, h]
/-- the lower ones of them -/
theorem be_drop (n k N : Nat) : (be (n + k) N).drop n = be k N := by
  apply List.ext_getElem?; intro i
  rw [List.getElem?_drop]
  rcases Nat.lt_or_ge i k with h | h
  · rw [be_get (by omega), be_get h, show n + k - 1 - (n + i) = k - 1 - i by omega]
  · rw [List.getElem?_eq_none (by rw [be_len]; omega), List.getElem?_eq_none (by rw [be_len]; omega)]

theorem zeroRow_one (v : Value) (n : Nat) : zeroRow #[v] n = (List.replicate n v).toArray := by
  apply Array.ext
  · simp [zeroRow]
  · intro i h1 h2
    simp [zeroRow, Nat.mod_one]
theorem cellsA_zero (k : IntKind) (n : Nat) : List.replicate n (.int k 0) = cellsA k (fun _ => 0) 0 n := by
  apply List.ext_getElem?; intro i
  rw [cellsA_get, List.getElem?_replicate]

/-- bytes anew -/
theorem Lo.mk8 {S : Nat → Prop} {w0 w : World} {L : List (Nat × Bk)} (m : Lo S w0 w L) {n c : Int} (h0 : 0 ≤ n) (h1 : n ≤ c) (h2 : c ≤ 281474976710656) {K : Sl → World → Prop}
    (hK : ∀ b w', w.heap.size = b → Lo S w0 w' ((b, .cs (cellsA .u8 (fun _ => 0) 0 c.toNat)) :: L) → K ⟨some ⟨b, 0, none⟩, n.toNat, c.toNat⟩ w') : mkslP Tryz.prog 5 w n c K := by
  have e1 : sizeT Tryz.prog 5 = some 1 := by kernel_rfl
  have e2 : (Tryz.prog.info? 5).map (fun i => (i.bytes : Int)) = some 1 := by kernel_rfl
  have e3 : zeroT Tryz.prog 5 = some (.int .u8 0) := by kernel_rfl
  unfold mkslP
  rw [e1, e2, e3]
  refine ⟨⟨h0, h1, by omega, by omega⟩, ?_⟩
  show V.al w (.cells (zeroRow #[.int .u8 0] (c.toNat * 1)) 5) _
  rw [zeroRow_one, Nat.mul_one, cellsA_zero]
  exact m.al hK
end Go.Proofs.YtpcgkfgppfjnlaaGreatDoor.V
namespace Go.Proofs.YtpcgkfgppfjnlaaGreatDoor.V
open Go Go.RowKit

def cmp4 (a b : Nat → Int) : Int := if sv a 4 < sv b 4 then -1 else if sv b 4 < sv a 4 then 1 else 0

theorem limb_Cmp_spec {p0 p1 : Nat → Int} {w : World} (h0 : U64 p0 4) (h1 : U64 p1 4) :
    callP Tryz.prog 36 #[arrV .u64 4 p0, arrV .u64 4 p1] w fun v w' => v = .int .i64 (cmp4 p0 p1) ∧ Fr F0 w w' := by
  refine limb_Cmp_ok ?_
  unfold limb_Cmp
  refine (Lo.start (S := F0) w).al fun b2 w1 _ m => ?_
  refine m.al fun b3 w2 _ m => ?_
  refine ⟨fun x5 x8 w' => Lo F0 w w' [(b3, .cs (cellsA .u64 p1 0 4)), (b2, .cs (cellsA .u64 p0 0 4))] ∧ x5 = 0 ∧ 0 ≤ x8 ∧ x8 ≤ 4 ∧ ∀ i : Nat, 4 ≤ i + x8 → i < 4 → p0 i = p1 i,
    fun _ x8 _ => (4 - x8).toNat, ⟨m, rfl, by omega, by omega, fun i _ _ => by omega⟩, ?_⟩
  rintro x5 x8 w' K ⟨m, rfl, h2, h3, h4⟩ hK
  refine br_lt (fun h => ?_) fun h => ?_
  · refine m.dr fun w' m => ?_
    obtain ⟨j, rfl⟩ : ∃ j : Nat, x8 = j := ⟨x8.toNat, by omega⟩
    have e : (3 - (j : Int)).toNat = 3 - j := by omega
    simp (disch := omega) only [w_i64, add_lit, Nat.mul_one, Nat.zero_add, e]
    refine ⟨by omega, m.rda 1 rfl (by omega) ⟨by omega, m.rda 0 rfl (by omega) ?_⟩⟩
    have g0 := h0 0 (by omega)
    have g1 := h0 1 (by omega)
    have g2 := h0 2 (by omega)
    have g3 := h0 3 (by omega)
    have k0 := h1 0 (by omega)
    have k1 := h1 1 (by omega)
    have k2 := h1 2 (by omega)
    have k3 := h1 3 (by omega)
    have q0 := h4 0
    have q1 := h4 1
    have q2 := h4 2
    have q3 := h4 3
    obtain rfl | rfl | rfl | rfl : j = 0 ∨ j = 1 ∨ j = 2 ∨ j = 3 := by omega
    all_goals
      simp only [Nat.sub_zero, show 3 - 1 = 2 from rfl, show 3 - 2 = 1 from rfl, show 3 - 3 = 0 from rfl]
      refine br_lt (fun h => ?_) fun h => m.dr fun w' m => ?_
      · refine ⟨?_, m.fr⟩
        unfold cmp4; rw [sv4, sv4]
        rw [if_pos (by omega)]
      · refine ⟨by omega, m.rda 1 rfl (by omega) ⟨by omega, m.rda 0 rfl (by omega) ?_⟩⟩
        refine br_gt (fun h => ?_) fun h => ?_
        · refine ⟨?_, m.fr⟩
          unfold cmp4; rw [sv4, sv4]
          rw [if_neg (by omega), if_pos (by omega)]
        · refine hK _ _ _ ⟨m, rfl, by omega, by omega, fun i hi hi2 => ?_⟩ (by dsimp only; omega)
          obtain rfl | rfl | rfl | rfl : i = 0 ∨ i = 1 ∨ i = 2 ∨ i = 3 := by omega
          all_goals omega
  · refine ⟨?_, m.fr⟩
    have q0 := h4 0 (by omega) (by omega)
    have q1 := h4 1 (by omega) (by omega)
    have q2 := h4 2 (by omega) (by omega)
    have q3 := h4 3 (by omega) (by omega)
    unfold cmp4; rw [sv4, sv4]
    rw [if_neg (by omega), if_neg (by omega)]

theorem add64 {a b c : Int} {w : World} {K : Value → Prop} (ha : 0 ≤ a) (hb : 0 ≤ b) (hc : 0 ≤ c) (hc2 : c ≤ 1)
    (h : ∀ s t : Int, 0 ≤ s → s < 18446744073709551616 → 0 ≤ t → s + t * 18446744073709551616 = a + b + c → K (.tuple #[.int .u64 s, .int .u64 t])) :
    extP Tryz.prog 82 #[.int .u64 a, .int .u64 b, .int .u64 c] w K := by
  obtain rfl | rfl : c = 0 ∨ c = 1 := by omega
  · have e : (callFunc 82 #[.int .u64 a, .int .u64 b, .int .u64 0]).run Tryz.prog w = .ok (.value (.tuple #[.int .u64 (Int.ofNat ((a.toNat + b.toNat + 0) % 18446744073709551616)), .int .u64 (Int.ofNat ((a.toNat + b.toNat + 0) / 18446744073709551616))])) w := by kernel_rfl
    exact ⟨_, e, h _ _ (by simp only [Int.ofNat_eq_natCast]; omega) (by simp only [Int.ofNat_eq_natCast]; omega) (by simp only [Int.ofNat_eq_natCast]; omega) (by simp only [Int.ofNat_eq_natCast]; omega)⟩
  · have e : (callFunc 82 #[.int .u64 a, .int .u64 b, .int .u64 1]).run Tryz.prog w = .ok (.value (.tuple #[.int .u64 (Int.ofNat ((a.toNat + b.toNat + 1) % 18446744073709551616)), .int .u64 (Int.ofNat ((a.toNat + b.toNat + 1) / 18446744073709551616))])) w := by kernel_rfl
    exact ⟨_, e, h _ _ (by simp only [Int.ofNat_eq_natCast]; omega) (by simp only [Int.ofNat_eq_natCast]; omega) (by simp only [Int.ofNat_eq_natCast]; omega) (by simp only [Int.ofNat_eq_natCast]; omega)⟩

theorem U64.upd {d : Nat → Int} {n j : Nat} {v : Int} (h : U64 d n) (h1 : 0 ≤ v) (h2 : v < 18446744073709551616) : U64 (V.upd d j v) n := by
  intro i hi
  unfold V.upd
  split
  · exact ⟨h1, h2⟩
  · exact h i hi
theorem U64.zero (n : Nat) : U64 (fun _ => 0) n := fun _ _ => by simp

theorem limb_Add_spec {p0 p1 : Nat → Int} {w : World} (h0 : U64 p0 4) (h1 : U64 p1 4) :
    callP Tryz.prog 59 #[arrV .u64 4 p0, arrV .u64 4 p1] w fun v w' => ∃ (d : Nat → Int) (c : Int), v = .tuple #[arrV .u64 4 d, .int .u64 c] ∧ U64 d 4 ∧ 0 ≤ c ∧ c ≤ 1 ∧
      sv d 4 + c * 18446744073709551616 ^ 4 = sv p0 4 + sv p1 4 ∧ Fr F0 w w' := by
  refine limb_Add_ok ?_
  unfold limb_Add
  refine (Lo.start (S := F0) w).al fun b2 w1 _ m => ?_
  refine m.al fun b3 w2 _ m => ?_
  refine m.al fun b4 w3 _ m => ?_
  refine ⟨fun x5 x7 w' => ∃ (d : Nat → Int) (j : Nat), Lo F0 w w' [(b4, .cs (cellsA .u64 d 0 4)), (b3, .cs (cellsA .u64 p1 0 4)), (b2, .cs (cellsA .u64 p0 0 4))] ∧ x7 = j ∧ j ≤ 4 ∧ 0 ≤ x5 ∧ x5 ≤ 1 ∧ U64 d 4 ∧
      sv d j + x5 * 18446744073709551616 ^ j = sv p0 j + sv p1 j,
    fun _ x7 _ => (4 - x7).toNat, ⟨_, 0, m, rfl, by omega, by omega, by omega, .zero 4, by simp [sv]⟩, ?_⟩
  rintro x5 x7 w' K ⟨d, j, m, rfl, h2, h3, h4, h5, h6⟩ hK
  refine br_lt (fun h => ?_) fun h => ?_
  · refine m.dr fun w' m => ?_
    simp (disch := omega) only [w_i64, add_lit, Nat.mul_one, Nat.zero_add, Int.toNat_natCast]
    have g0 := h0 j (by omega)
    have g1 := h1 j (by omega)
    refine ⟨by omega, m.rda 2 rfl (by omega) ⟨by omega, m.rda 1 rfl (by omega) ?_⟩⟩
    refine add64 g0.1 g1.1 h3 h4 fun s t hs1 hs2 ht e => ⟨s, t, rfl, by omega, m.wra 0 rfl (by omega) fun w' m => ?_⟩
    refine hK _ _ _ ⟨_, j + 1, m, by omega, by omega, ht, by omega, h5.upd hs1 hs2, ?_⟩ (by dsimp only; omega)
    simp only [sv, sv_upd_ge _ _ _ _ (Nat.le_refl j), upd_at]
    grind
  · obtain rfl : j = 4 := by omega
    refine m.rdA 0 rfl (m.wrA 0 rfl fun w' m => m.rdA 0 rfl ⟨d, x5, rfl, h5, h3, h4, h6, m.fr⟩)

theorem Mul64_spec {a b : Int} {w : World} (ha : 0 ≤ a) (ha2 : a < 18446744073709551616) (hb : 0 ≤ b) (hb2 : b < 18446744073709551616) :
    callP Tryz.prog 106 #[.int .u64 a, .int .u64 b] w fun v w' => ∃ h l : Int, v = .tuple #[.int .u64 h, .int .u64 l] ∧ 0 ≤ h ∧ h < 18446744073709551616 ∧ 0 ≤ l ∧ l < 18446744073709551616 ∧
      h * 18446744073709551616 + l = a * b ∧ Fr F0 w w' := by
  refine math_bits_Mul64_ok ?_
  unfold math_bits_Mul64
  refine ⟨by omega, by omega, by omega, by omega, by omega, _, _, rfl, ?_⟩
  simp only [lo32 ha ha2, lo32 hb hb2, hi32 ha, hi32 hb]
  generalize ex0 : a % 4294967296 = x0
  generalize ex1 : a / 4294967296 = x1
  generalize ey0 : b % 4294967296 = y0
  generalize ey1 : b / 4294967296 = y1
  have i1 : a = x1 * 4294967296 + x0 := by omega
  have i2 : b = y1 * 4294967296 + y0 := by omega
  have b1 : 0 ≤ x0 ∧ x0 ≤ 4294967295 := by omega
  have b2 : 0 ≤ x1 ∧ x1 ≤ 4294967295 := by omega
  have b3 : 0 ≤ y0 ∧ y0 ≤ 4294967295 := by omega
  have b4 : 0 ≤ y1 ∧ y1 ≤ 4294967295 := by omega
  have mm : ∀ x y : Int, 0 ≤ x ∧ x ≤ 4294967295 → 0 ≤ y ∧ y ≤ 4294967295 → 0 ≤ x * y ∧ x * y ≤ 18446744065119617025 := fun x y hx hy =>
    ⟨Int.mul_nonneg hx.1 hy.1, Int.le_trans (Int.mul_le_mul hx.2 hy.2 hy.1 (by decide)) (by decide)⟩
  have c1 := mm x0 y0 b1 b3
  have c2 := mm x1 y0 b2 b3
  have c3 := mm x0 y1 b1 b4
  have c4 := mm x1 y1 b2 b4
  have e : a * b = x1 * y1 * 18446744073709551616 + (x1 * y0 + x0 * y1) * 4294967296 + x0 * y0 := by rw [i1, i2]; grind
  rw [e]
  generalize x0 * y0 = q00 at *
  generalize x1 * y0 = q10 at *
  generalize x0 * y1 = q01 at *
  generalize x1 * y1 = q11 at *
  simp only [w_u64]
  rw [Int.emod_eq_of_lt (a := q00) (by omega) (by omega), Int.emod_eq_of_lt (a := q11) (by omega) (by omega), Int.emod_eq_of_lt (a := q01) (by omega) (by omega), Int.emod_eq_of_lt (a := q10) (by omega) (by omega)]
  rw [hi32 (x := q00) (by omega)]
  rw [Int.emod_eq_of_lt (a := q10 + q00 / 4294967296) (by omega) (by omega)]
  rw [hi32 (x := q10 + q00 / 4294967296) (by omega), lo32 (x := q10 + q00 / 4294967296) (by omega) (by omega)]
  rw [Int.emod_eq_of_lt (a := (q10 + q00 / 4294967296) % 4294967296 + q01) (by omega) (by omega)]
  rw [hi32 (x := (q10 + q00 / 4294967296) % 4294967296 + q01) (by omega)]
  refine ⟨by omega, by omega, by omega, by omega, by omega, .refl w⟩

theorem cellsA_at {k : IntKind} {d : Nat → Int} {n : Nat} {i : Nat} (h : i < n) : (cellsA k d 0 n)[i]? = some (.int k (d i)) := by
  rw [cellsA_get, if_pos h, Nat.zero_add]

theorem mul_step {S x X Y A B a b V s d H M : Int} (h : S + x * (X * Y) = A * B + a * X * V) (e : s - d + H * M = a * b + x) :
    S + (s - d) * (X * Y) + H * (X * Y * M) = A * B + a * X * (V + b * Y) := by
  have : (s - d + H * M) * (X * Y) = (a * b + x) * (X * Y) := by rw [e]
  grind
theorem limb_Mul_spec {p0 p1 : Nat → Int} {w : World} (h0 : U64 p0 4) (h1 : U64 p1 4) :
    callP Tryz.prog 77 #[arrV .u64 4 p0, arrV .u64 4 p1] w fun v w' => ∃ d : Nat → Int, v = arrV .u64 8 d ∧ U64 d 8 ∧ sv d 8 = sv p0 4 * sv p1 4 ∧ Fr F0 w w' := by
  refine limb_Mul_ok ?_
  unfold limb_Mul
  refine (Lo.start (S := F0) w).al fun b2 w1 _ m => ?_
  refine m.al fun b3 w2 _ m => ?_
  refine m.al fun b4 w3 _ m => ?_
  refine m.al fun b5 w4 _ m => ?_
  refine m.rdA 3 rfl ?_
  refine ⟨fun x15 w' => ∃ (d : Nat → Int) (i : Nat), Lo F0 w w' [(b5, .cs (cellsA .u64 d 0 8)), (b4, .cs (cellsA .u64 (fun _ => 0) 0 8)), (b3, .cs (cellsA .u64 p1 0 4)), (b2, .cs (cellsA .u64 p0 0 4))] ∧
      x15 = i ∧ i ≤ 4 ∧ U64 d 8 ∧ (∀ k, i + 4 ≤ k → k < 8 → d k = 0) ∧ sv d 8 = sv p0 i * sv p1 4,
    fun x15 _ => (4 - x15).toNat, ⟨_, 0, m, rfl, by omega, .zero 8, fun _ _ _ => rfl, by simp [sv]⟩, ?_⟩
  rintro x15 w' K ⟨d, i, m, rfl, h2, h3, h4, h5⟩ hK
  refine br_lt (fun h => ?_) fun h => ?_
  · have g0 := h0 i (by omega)
    refine ⟨by omega, p0 i, by simpa using cellsA_at (by omega), m.rdA 2 rfl ?_⟩
    refine ⟨fun x8 x20 w' => ∃ (d : Nat → Int) (j : Nat), Lo F0 w w' [(b5, .cs (cellsA .u64 d 0 8)), (b4, .cs (cellsA .u64 (fun _ => 0) 0 8)), (b3, .cs (cellsA .u64 p1 0 4)), (b2, .cs (cellsA .u64 p0 0 4))] ∧
        x20 = j ∧ j ≤ 4 ∧ 0 ≤ x8 ∧ x8 < 18446744073709551616 ∧ U64 d 8 ∧ (∀ k, i + 4 ≤ k → k < 8 → d k = 0) ∧
        sv d 8 + x8 * 18446744073709551616 ^ (i + j) = sv p0 i * sv p1 4 + p0 i * 18446744073709551616 ^ i * sv p1 j,
      fun _ x20 _ => (4 - x20).toNat, ⟨d, 0, m, rfl, by omega, by omega, by omega, h3, h4, by simp [h5, show sv p1 0 = 0 from rfl]⟩, ?_⟩
    rintro x8 x20 w' K1 ⟨d, j, m, rfl, j2, j3, j4, j5, j6, j7⟩ hK1
    refine br_lt (fun h' => ?_) fun h' => ?_
    · have g1 := h1 j (by omega)
      have e1 : ((i : Int) + (j : Int)).toNat = i + j := by omega
      refine ⟨by omega, p1 j, by simpa using cellsA_at (by omega), ?_⟩
      refine callP_of (Mul64_spec g0.1 g0.2 g1.1 g1.2) ?_
      rintro v w' ⟨hi, lo, rfl, m1, m2, m3, m4, m5, hf⟩
      have m := m.keep hf
      refine ⟨hi, lo, rfl, ?_⟩
      simp (disch := omega) only [w_i64, add_lit, Nat.mul_one, Nat.zero_add, e1]
      have q := j5 (i + j) (by omega)
      refine ⟨by omega, m.rda 0 rfl (by omega) ?_⟩
      refine add64 m3 q.1 (by omega) (by omega) fun s1 t1 a1 a2 a3 a4 => ⟨s1, t1, rfl, ?_⟩
      refine add64 a1 j3 (by omega) (by omega) fun s2 t2 c1 c2 c3 c4 => ⟨s2, t2, rfl, by omega, m.wra 0 rfl (by omega) fun w' m => ?_⟩
      have mm : p0 i * p1 j ≤ 18446744073709551615 * 18446744073709551615 := Int.mul_le_mul (by omega) (by omega) g1.1 (by omega)
      simp only [w_u64]
      rw [Int.emod_eq_of_lt (a := hi + t1) (by omega) (by omega), Int.emod_eq_of_lt (a := hi + t1 + t2) (by omega) (by omega)]
      refine hK1 _ _ _ ⟨_, j + 1, m, by omega, by omega, by omega, by omega, j5.upd c1 c2, fun k k1 k2 => ?_, ?_⟩ (by dsimp only; omega)
      · rw [upd_ne _ _ _ _ (by omega)]; exact j6 k k1 k2
      · rw [sv_upd _ _ _ _ (by omega)]
        simp only [sv]
        have e2 : (18446744073709551616 : Int) ^ (i + (j + 1)) = 18446744073709551616 ^ (i + j) * 18446744073709551616 := by rw [← Nat.add_assoc, Int.pow_succ]
        have e3 : (18446744073709551616 : Int) ^ (i + j) = 18446744073709551616 ^ i * 18446744073709551616 ^ j := Int.pow_add ..
        rw [e2]
        rw [e3] at j7 ⊢
        exact mul_step j7 (by omega)
    · obtain rfl : j = 4 := by omega
      have e1 : ((i : Int) + 4).toNat = i + 4 := by omega
      simp (disch := omega) only [w_i64, add_lit, Nat.mul_one, Nat.zero_add, e1]
      refine ⟨by omega, m.wra 0 rfl (by omega) fun w' m => ?_⟩
      refine hK _ _ ⟨_, i + 1, m, by omega, by omega, j5.upd j3 j4, fun k k1 k2 => ?_, ?_⟩ (by dsimp only; omega)
      · rw [upd_ne _ _ _ _ (by omega)]; exact j6 k (by omega) k2
      · rw [sv_upd _ _ _ _ (by omega), j6 (i + 4) (by omega) (by omega)]
        simp only [sv] at j7 ⊢
        grind
  · obtain rfl : i = 4 := by omega
    refine m.rdA 0 rfl (m.wrA 1 rfl fun w' m => m.rdA 1 rfl ⟨d, rfl, h3, h5, m.fr⟩)
end Go.Proofs.YtpcgkfgppfjnlaaGreatDoor.V
namespace Go.Proofs.YtpcgkfgppfjnlaaGreatDoor.V
open Go Go.RowKit

theorem pow64 (i : Nat) : (18446744073709551616 : Int) ^ i = ((2 ^ (64 * i) : Nat) : Int) := by
  rw [Nat.pow_mul]; simp
/-- a word out of a number -/
theorem sv_word {d : Nat → Int} : ∀ {n : Nat}, U64 d n → ∀ i, i < n → sv d n / 18446744073709551616 ^ i % 18446744073709551616 = d i
  | n + 1, h, i, hi => by
    have h1 : U64 d n := fun i hi => h i (by omega)
    simp only [sv]
    rcases Nat.lt_or_ge i n with q | q
    · have e : (18446744073709551616 : Int) ^ n = 18446744073709551616 ^ i * (18446744073709551616 * 18446744073709551616 ^ (n - 1 - i)) := by
        rw [← Int.pow_succ', ← Int.pow_add, show i + (n - 1 - i + 1) = n by omega]
      have e2 : d n * (18446744073709551616 ^ n : Int) = 18446744073709551616 ^ i * (18446744073709551616 * (d n * 18446744073709551616 ^ (n - 1 - i))) := by
        rw [e]; grind
      rw [e2, Int.add_mul_ediv_left _ _ (by have := Int.pow_pos (n := (18446744073709551616 : Int)) (m := i) (by decide); omega), Int.add_mul_emod_self_left]
      exact sv_word h1 i q
    · obtain rfl : i = n := by omega
      have hp := Int.pow_pos (n := (18446744073709551616 : Int)) (m := i) (by decide)
      rw [Int.add_mul_ediv_right _ _ (by omega), Int.ediv_eq_zero_of_lt (sv_nonneg h1) (sv_lt h1), Int.zero_add]
      have := h i (by omega)
      omega
/-- a byte out of a number -/
theorem sv_byte {d : Nat → Int} {n : Nat} (h : U64 d n) {q r : Nat} (hq : q < n) (hr : r < 8) : d q / 2 ^ (8 * r) % 256 = sv d n / 256 ^ (8 * q + r) % 256 := by
  rw [← sv_word h q hq]
  obtain ⟨N, hN⟩ : ∃ N : Nat, sv d n = N := ⟨(sv d n).toNat, by have := sv_nonneg h; omega⟩
  rw [hN]
  have e : (((N / 18446744073709551616 ^ q % 18446744073709551616) / 2 ^ (8 * r) % 256 : Nat) : Int) = ((N / 256 ^ (8 * q + r) % 256 : Nat) : Int) := by
    congr 1
    have e1 : (18446744073709551616 : Nat) = 2 ^ (8 * r) * 2 ^ (64 - 8 * r) := by rw [← Nat.pow_add, show 8 * r + (64 - 8 * r) = 64 by omega]
    have e2 : (256 : Nat) ∣ 2 ^ (64 - 8 * r) := ⟨2 ^ (56 - 8 * r), by rw [show (256 : Nat) = 2 ^ 8 from rfl, ← Nat.pow_add]; congr 1; omega⟩
    have e3 : (256 : Nat) ^ (8 * q + r) = 18446744073709551616 ^ q * 2 ^ (8 * r) := by
      rw [show (256 : Nat) = 2 ^ 8 from rfl, show (18446744073709551616 : Nat) = 2 ^ 64 from rfl, ← Nat.pow_mul, ← Nat.pow_mul, ← Nat.pow_add]
      congr 1
      omega
    rw [e3, ← Nat.div_div_eq_div_mul]
    generalize N / 18446744073709551616 ^ q = M
    conv => lhs; rw [e1, Nat.mod_mul_right_div_self, Nat.mod_mod_of_dvd _ e2]
  simpa using e
theorem u8_byte (N k : Nat) : ((UInt8.ofNat (N / 256 ^ k)).toNat : Int) = (N : Int) / 256 ^ k % 256 := by
  simp

set_option maxRecDepth 4000 in
theorem limb_Bytes_spec {p0 : Nat → Int} {w : World} (h0 : U64 p0 4) :
    callP Tryz.prog 84 #[arrV .u64 4 p0] w fun v w' => ∃ s : Sl, v = s.v ∧ By w' s (be 32 (sv p0 4).toNat) ∧ s.cap = 32 ∧ s.fresh w ∧ Fr F0 w w' := by
  refine limb_Bytes_ok ?_
  unfold limb_Bytes
  refine (Lo.start (S := F0) w).al fun b1 w1 _ m => ?_
  have hs1 := m.fr.size
  refine m.mk8 (by decide) (by decide) (by decide) fun b2 w2 hb2 m => ?_
  refine ⟨fun x9 w' => ∃ (d : Nat → Int) (i : Nat), Lo F0 w w' [(b2, .cs (cellsA .u8 d 0 32)), (b1, .cs (cellsA .u64 p0 0 4))] ∧ x9 = i ∧ i ≤ 32 ∧
      (∀ k, k < i → d (31 - k) = sv p0 4 / 256 ^ k % 256), fun x9 _ => (32 - x9).toNat, ⟨_, 0, m, rfl, by omega, fun k hk => by omega⟩, ?_⟩
  rintro x9 w' K ⟨d, i, m, rfl, h2, h3⟩ hK
  have eS : ((32 : Int).toNat : Nat) = 32 := rfl
  simp only [eS]
  refine br_lt (fun h => ?_) fun h => ?_
  · have eq : Int.tdiv (i : Int) 8 = ((i / 8 : Nat) : Int) := by rw [Int.tdiv_eq_ediv_of_nonneg (by omega)]; omega
    have er : Int.tmod (i : Int) 8 = ((i % 8 : Nat) : Int) := by rw [Int.tmod_eq_emod_of_nonneg (by omega)]; omega
    have g0 := h0 (i / 8) (by omega)
    have e1 : (((32 : Nat) : Int) - 1 - (i : Int)).toNat = 31 - i := by omega
    simp (disch := omega) only [eq, er, w_i64, add_lit, Nat.mul_one, Nat.zero_add, Int.toNat_natCast, e1]
    refine ⟨by omega, by omega, m.rda 1 rfl (by omega) ⟨by omega, by omega, by omega, ?_⟩⟩
    show wr _ (Addr.add ⟨b2, 0, none⟩ _) _ _
    simp only [add_lit, Nat.zero_add]
    refine m.wra 0 rfl (by omega) fun w' m => ?_
    refine hK _ _ ⟨_, i + 1, m, by omega, by omega, fun k hk => ?_⟩ (by dsimp only; omega)
    rcases Nat.lt_or_ge k i with q | q
    · rw [upd_ne _ _ _ _ (by omega)]; exact h3 k q
    · obtain rfl : k = i := by omega
      rw [upd_at, w_u8, show (8 : Int) * ((k % 8 : Nat) : Int) = ((8 * (k % 8) : Nat) : Int) by simp, ishr_pos _ g0.1 (by show _ ≤ 64; omega), sv_byte h0 (by omega) (by omega), show 8 * (k / 8) + k % 8 = k by omega]
  · obtain rfl : i = 32 := by omega
    refine ⟨⟨some ⟨b2, 0, none⟩, 32, 32⟩, rfl, ?_, rfl, fun a ha => by simp at ha; subst ha; intro _; show _ ≤ b2; omega, m.fr⟩
    have e : cellsA .u8 d 0 32 = bv (be 32 (sv p0 4).toNat) := by
      rw [← be_len 32 (sv p0 4).toNat]
      refine cellsA_bv fun k b hb => ?_
      have hk : k < 32 := by
        rcases Nat.lt_or_ge k 32 with q | q
        · exact q
        · rw [List.getElem?_eq_none (by rw [be_len]; exact q)] at hb; simp at hb
      rw [be_get hk] at hb
      obtain rfl : _ = b := by simpa using hb
      rw [u8_byte, show k = 31 - (31 - k) by omega, h3 _ (by omega), show 32 - 1 - (31 - (31 - k)) = 31 - k by omega]
      have := sv_nonneg h0
      rw [Int.toNat_of_nonneg this]
    have := m.slc 0 rfl (n := 32) (c := 32) (sz := 1) (by rw [cellsA_len]; omega) (by omega)
    rw [List.take_of_length_le (by rw [cellsA_len]; omega), e] at this
    exact this

/-- what bytes are worth, the highest one first -/
def bval (l : List UInt8) : Nat := l.foldl (fun n b => n * 256 + b.toNat) 0
theorem bval_snoc (l : List UInt8) (b : UInt8) : bval (l ++ [b]) = bval l * 256 + b.toNat := by simp [bval]
theorem u8_lt (b : UInt8) : b.toNat < 256 := b.toNat_lt

theorem of_word {d : Nat → Int} (h : U64 d 4) {V q r : Nat} (hq : q < 4) (hr : r < 8) (hv : sv d 4 = ((V * 256 ^ (8 * q + r + 1) : Nat) : Int)) :
    ∃ t : Nat, d q = ((t * 2 ^ (8 * (r + 1)) : Nat) : Int) ∧ t < 2 ^ (64 - 8 * (r + 1)) := by
  have e := sv_word h q hq
  rw [hv, pow64] at e
  have e0 : d q = (((V * 256 ^ (8 * q + r + 1)) / 2 ^ (64 * q) % 18446744073709551616 : Nat) : Int) := by rw [← e]; simp
  have e1 : V * 256 ^ (8 * q + r + 1) = 2 ^ (64 * q) * (V * 2 ^ (8 * (r + 1))) := by
    rw [show (256 : Nat) = 2 ^ 8 from rfl, ← Nat.pow_mul, show 8 * (8 * q + r + 1) = 64 * q + 8 * (r + 1) by omega, Nat.pow_add]
    grind
  rw [e1, Nat.mul_div_cancel_left _ (Nat.two_pow_pos _)] at e0
  have e2 : (18446744073709551616 : Nat) = 2 ^ (64 - 8 * (r + 1)) * 2 ^ (8 * (r + 1)) := by rw [← Nat.pow_add, show 64 - 8 * (r + 1) + 8 * (r + 1) = 64 by omega]
  refine ⟨V % 2 ^ (64 - 8 * (r + 1)), ?_, Nat.mod_lt _ (Nat.two_pow_pos _)⟩
  rw [e0, e2, Nat.mul_mod_mul_right]

set_option maxRecDepth 4000 in
theorem limb_Of_spec {s : Sl} {l : List UInt8} {w : World} (hb : By w s l) :
    callP Tryz.prog 61 #[s.v] w fun v w' => ∃ (d : Nat → Int), U64 d 4 ∧ Fr F0 w w' ∧
      if l.length ≤ 32 then v = .tuple #[arrV .u64 4 d, .int .i64 0] ∧ sv d 4 = (bval l : Int) else v = .tuple #[arrV .u64 4 d, .int .i64 2] ∧ sv d 4 = 0 := by
  have hlen := hb.len
  refine limb_Of_ok ?_
  unfold limb_Of
  refine (Lo.start (S := F0) w).al fun b2 w1 _ m => ?_
  refine m.al fun b4 w2 _ m => ?_
  refine br_gt (fun h => ?_) fun h => ?_
  · refine m.rdA 0 rfl (m.wrA 1 rfl fun w' m => m.rdA 1 rfl ⟨_, .zero 4, m.fr, ?_⟩)
    rw [if_neg (by omega)]
    exact ⟨rfl, by simp [sv]⟩
  · refine ⟨fun x14 w' => ∃ (d : Nat → Int) (i : Nat), Lo F0 w w' [(b4, .cs (cellsA .u64 d 0 4)), (b2, .cs (cellsA .u64 (fun _ => 0) 0 4))] ∧ x14 = i ∧ i ≤ l.length ∧ U64 d 4 ∧
      sv d 4 = ((bval (l.take i) * 256 ^ (l.length - i) : Nat) : Int), fun x14 _ => (s.len - x14).toNat, ⟨_, 0, m, rfl, by omega, .zero 4, by simp [sv, bval]⟩, ?_⟩
    rintro x14 w' K ⟨d, i, m, rfl, h2, h3, h4⟩ hK
    refine br_lt (fun h => ?_) fun h => ?_
    · refine ⟨by omega, ?_⟩
      refine By.rd (hb.fr0 m.fr) (by omega) (by omega) fun b hbi => m.dr fun w' m => ?_
      rw [Int.toNat_natCast] at hbi
      have hi : i < l.length := by omega
      obtain ⟨k, hk⟩ : ∃ k, l.length = i + k + 1 := ⟨l.length - 1 - i, by omega⟩
      have hkk : ((s.len : Int) - 1 - i) = (k : Int) := by omega
      have eq : Int.tdiv (k : Int) 8 = ((k / 8 : Nat) : Int) := by rw [Int.tdiv_eq_ediv_of_nonneg (by omega)]; omega
      have er : Int.tmod (k : Int) 8 = ((k % 8 : Nat) : Int) := by rw [Int.tmod_eq_emod_of_nonneg (by omega)]; omega
      have g := h3 (k / 8) (by omega)
      have hb8 := u8_lt b
      simp (disch := omega) only [w_i64, hkk, eq, er, add_lit, Nat.mul_one, Nat.zero_add, Int.toNat_natCast]
      refine ⟨by omega, by omega, m.rda 0 rfl (by omega) ⟨by omega, by omega, by omega, ?_⟩⟩
      refine m.wra 0 rfl (by omega) fun w' m => ?_
      rw [show l.length - i = 8 * (k / 8) + k % 8 + 1 by omega] at h4
      obtain ⟨t, ht, ht2⟩ := of_word h3 (by omega) (Nat.mod_lt k (by decide)) h4
      have hr : k % 8 < 8 := Nat.mod_lt k (by decide)
      have p1 : (2 : Nat) ^ (8 * (k % 8 + 1)) = 2 ^ (8 * (k % 8)) * 256 := by rw [show 8 * (k % 8 + 1) = 8 * (k % 8) + 8 by omega, Nat.pow_add]
      have p2 : (2 : Nat) ^ (64 - 8 * (k % 8 + 1)) * 2 ^ (8 * (k % 8 + 1)) = 18446744073709551616 := by
        rw [← Nat.pow_add, show 64 - 8 * (k % 8 + 1) + 8 * (k % 8 + 1) = 64 by omega]
      have p3 : (t + 1) * 2 ^ (8 * (k % 8 + 1)) ≤ 18446744073709551616 := by rw [← p2]; exact Nat.mul_le_mul_right _ (by omega)
      have p4 : b.toNat * 2 ^ (8 * (k % 8)) < 2 ^ (8 * (k % 8 + 1)) := by
        rw [p1, Nat.mul_comm]; exact Nat.mul_lt_mul_of_pos_left hb8 (Nat.two_pow_pos _)
      rw [Nat.add_mul, Nat.one_mul] at p3
      have e1 : ishl .u64 (IntKind.wrap .u64 (b.toNat : Int)) (8 * ((k % 8 : Nat) : Int)) = ((b.toNat * 2 ^ (8 * (k % 8)) : Nat) : Int) := by
        rw [w_u64, Int.emod_eq_of_lt (by omega) (by omega), show (8 : Int) * ((k % 8 : Nat) : Int) = ((8 * (k % 8) : Nat) : Int) by simp, ishl_mul _ (by show _ ≤ 64; omega), w_u64]
        rw [show (b.toNat : Int) * 2 ^ (8 * (k % 8)) = ((b.toNat * 2 ^ (8 * (k % 8)) : Nat) : Int) by simp]
        omega
      have e2 : ior .u64 (d (k / 8)) ((b.toNat * 2 ^ (8 * (k % 8)) : Nat) : Int) = d (k / 8) + ((b.toNat * 2 ^ (8 * (k % 8)) : Nat) : Int) := by
        refine ior_add (n := 8 * (k % 8 + 1)) rfl g.1 (by omega) ?_ ?_ ?_
        · have : ((2 ^ (8 * (k % 8 + 1)) : Nat) : Int) = 2 ^ (8 * (k % 8 + 1)) := by simp
          omega
        · rw [ht]
          simp
        · show _ < (18446744073709551616 : Int)
          omega
      refine hK _ _ ⟨_, i + 1, m, by omega, by omega, ?_, ?_⟩ (by dsimp only; omega)
      · rw [e1, e2]
        exact h3.upd (by omega) (by omega)
      · rw [e1, e2, sv_upd _ _ _ _ (by omega), h4]
        have e3 : d (k / 8) + ((b.toNat * 2 ^ (8 * (k % 8)) : Nat) : Int) - d (k / 8) = ((b.toNat * 2 ^ (8 * (k % 8)) : Nat) : Int) := by omega
        have e4 : l.take (i + 1) = l.take i ++ [b] := by rw [List.take_add_one, hbi]; rfl
        rw [e3, e4, bval_snoc, pow64, show l.length - (i + 1) = k by omega]
        have e5 : (2 : Nat) ^ (8 * (k % 8)) * 2 ^ (64 * (k / 8)) = 256 ^ k := by
          rw [show (256 : Nat) = 2 ^ 8 from rfl, ← Nat.pow_mul, ← Nat.pow_add]; congr 1; omega
        rw [show 8 * (k / 8) + k % 8 + 1 = k + 1 by omega, ← Int.natCast_mul, ← Int.natCast_add, Nat.mul_assoc, e5]
        congr 1
        rw [Nat.pow_succ]
        grind
    · obtain rfl : i = l.length := by omega
      refine m.rdA 0 rfl (m.wrA 1 rfl fun w' m => m.rdA 1 rfl ⟨d, h3, m.fr, ?_⟩)
      rw [if_pos (by omega)]
      refine ⟨rfl, ?_⟩
      rw [h4]; simp

/-- one word as a number -/
def n1 (x : Int) : Nat → Int
  | 0 => x
  | _ => 0
theorem n1_arr (x : Int) : Value.agg #[.int .u64 x, .int .u64 0, .int .u64 0, .int .u64 0] = arrV .u64 4 (n1 x) := rfl
theorem n1_u64 {x : Int} (h : 0 ≤ x) (h2 : x < 18446744073709551616) : U64 (n1 x) 4 := by
  intro i _
  cases i with
  | zero => exact ⟨h, h2⟩
  | succ i => simp [n1]
theorem n1_sv (x : Int) : sv (n1 x) 4 = x := by simp [sv, n1]

set_option maxRecDepth 4000 in
theorem number_spec {x : Int} {w : World} (h0 : 0 ≤ x) (h1 : x < 18446744073709551616) :
    callP Tryz.prog 69 #[.int .u64 x] w fun v w' => ∃ s : Sl, v = s.v ∧ By w' s (be 8 x.toNat) ∧ s.fresh w ∧ Fr F0 w w' := by
  refine digest_number_ok ?_
  unfold digest_number
  rw [n1_arr]
  refine callP_of (limb_Bytes_spec (n1_u64 h0 h1)) ?_
  rintro v w' ⟨s, rfl, hs, hc, hfr, hf⟩
  have hl := hs.len
  rw [be_len] at hl
  refine ⟨s, rfl, ⟨by omega, by omega⟩, ?_⟩
  rw [n1_sv] at hs
  refine ⟨⟨cutAt s.p s.cap 24 1, s.len - 24, s.cap - 24⟩, rfl, ?_, (hfr.cut (Nat.sub_le _ _)), hf⟩
  have := hs.cut (i := 24) (e := s.len) (by omega) (by omega)
  rw [show (32 : Nat) = 24 + 8 from rfl, be_drop, List.take_of_length_le (by rw [be_len]; omega)] at this
  exact this

/-- words of a list -/
def wv (l : List Nat) : List Value := l.map fun n : Nat => .int .u64 (n : Int)
def W64 (l : List Nat) : Prop := ∀ n ∈ l, n < 18446744073709551616
theorem wv_get (l : List Nat) (i : Nat) : (wv l)[i]? = l[i]?.map fun n : Nat => .int .u64 (n : Int) := by simp [wv]
theorem wv_len (l : List Nat) : (wv l).length = l.length := by simp [wv]
abbrev Wd (w : World) (s : Sl) (l : List Nat) : Prop := SlC w s 1 (wv l)
theorem Wd.len {w : World} {s : Sl} {l : List Nat} (h : Wd w s l) : s.len = l.length := by have := h.1; rw [wv_len] at this; omega
theorem Wd.rd {w : World} {s : Sl} {l : List Nat} (h : Wd w s l) {i : Int} (hi : 0 ≤ i) (hi2 : i < s.len) {K : Int → Prop} (hK : ∀ n : Nat, l[i.toNat]? = some n → K (n : Int)) :
    nn s.p fun a => V.rd (.int .u64) w (Addr.add a (i.toNat * 1)) 0 K := by
  have hlen := h.len
  have hlt : i.toNat < l.length := by omega
  refine SlC.rd h hi hi2 (k := .int .u64) (x := ((l[i.toNat] : Nat) : Int)) rfl ?_ (hK _ (List.getElem?_eq_getElem hlt))
  rw [wv_get, List.getElem?_eq_getElem hlt]
  rfl

set_option maxRecDepth 4000 in
/-- the sum of stakes -/
theorem Total_spec {s : Sl} {l : List Nat} {w : World} (hb : Wd w s l) (h64 : W64 l) (hn : l.length < 9223372036854775808) :
    callP Tryz.prog 35 #[s.v] w fun v w' => ∃ (d : Nat → Int), v = arrV .u64 4 d ∧ U64 d 4 ∧ sv d 4 = ((l.sum : Nat) : Int) ∧ Fr F0 w w' := by
  have hlen := hb.len
  refine portion_Total_ok ?_
  unfold portion_Total
  refine (Lo.start (S := F0) w).al fun b2 w1 _ m => ?_
  refine m.al fun b3 w2 _ m => ?_
  refine ⟨fun x8 w' => ∃ (d : Nat → Int) (i : Nat), Lo F0 w w' [(b3, .cs (cellsA .u64 d 0 4)), (b2, .cs (cellsA .u64 (fun _ => 0) 0 4))] ∧ x8 = i ∧ i ≤ l.length ∧ U64 d 4 ∧ sv d 4 = (((l.take i).sum : Nat) : Int) ∧ (l.take i).sum ≤ i * 18446744073709551616,
    fun x8 _ => (s.len - x8).toNat, ⟨_, 0, m, rfl, by omega, .zero 4, by simp [sv], by simp⟩, ?_⟩
  rintro x8 w' K ⟨d, i, m, rfl, h2, h3, h4, h5⟩ hK
  refine br_lt (fun h => ?_) fun h => ?_
  · refine ⟨by omega, ?_⟩
    refine Wd.rd (hb.fr0 m.fr) (by omega) (by omega) fun n hni => m.rdA 0 rfl ?_
    rw [Int.toNat_natCast] at hni
    have hn64 := h64 n (List.mem_of_getElem? hni)
    rw [n1_arr]
    refine callP_of (limb_Add_spec h3 (n1_u64 (by omega) (by omega))) ?_
    rintro v w' ⟨e, c, rfl, he, hc1, hc2, hs, hf⟩
    refine ⟨e, c, rfl, ?_⟩
    have m := m.keep hf
    refine m.wrA 0 rfl fun w' m => ?_
    have e4 : l.take (i + 1) = l.take i ++ [n] := by rw [List.take_add_one, hni]; rfl
    rw [n1_sv] at hs
    have hsum : (l.take (i + 1)).sum = (l.take i).sum + n := by rw [e4]; simp
    have hp : (18446744073709551616 : Int) ^ 4 = 115792089237316195423570985008687907853269984665640564039457584007913129639936 := by decide
    rw [hp] at hs
    have he0 := sv_nonneg he
    simp (disch := omega) only [w_i64]
    refine hK _ _ ⟨e, i + 1, m, by omega, by omega, he, ?_, ?_⟩ (by dsimp only; omega)
    · rw [hsum]; omega
    · rw [hsum]; omega
  · obtain rfl : i = l.length := by omega
    refine m.rdA 0 rfl (m.wrA 1 rfl fun w' m => m.rdA 1 rfl ⟨d, rfl, h3, ?_, m.fr⟩)
    rw [h4]; simp

set_option maxRecDepth 4000 in
theorem More_spec {a b : Int} {w : World} (ha : 0 ≤ a) (ha2 : a < 18446744073709551616) (hb : 0 ≤ b) (hb2 : b < 18446744073709551616) :
    callP Tryz.prog 55 #[.int .u64 a, .int .u64 b] w fun v w' => v = .bool (decide (b < 3 * a)) ∧ Fr F0 w w' := by
  refine votes_More_ok ?_
  unfold votes_More
  rw [n1_arr, n1_arr]
  refine callP_of (limb_Mul_spec (n1_u64 ha ha2) (n1_u64 (x := 3) (by decide) (by decide))) ?_
  rintro v w1 ⟨d, rfl, hd, hs, hf⟩
  refine ⟨d, rfl, ?_⟩
  have m := (Lo.start (S := F0) w).keep hf
  refine m.al fun b5 w2 _ m => ?_
  refine m.wrA 0 rfl fun w3 m => ⟨by omega, by omega, ?_⟩
  show rd (.arr .u64 4) _ _ 0 _
  have hd4 : U64 d 4 := fun i hi => hd i (by omega)
  refine rd_of (k := .arr .u64 4) d (Own.at (m.at 0 rfl) fun i hi => ?_) ?_
  · simp only [cellsK] at hi ⊢
    rw [cellsA_len] at hi
    rw [cellsA_get, cellsA_get, if_pos (by omega), if_pos hi]
    simp
  · rw [n1_arr]
    refine callP_of (limb_Cmp_spec hd4 (n1_u64 hb hb2)) ?_
    rintro v w4 ⟨rfl, hf⟩
    have m := m.keep hf
    refine ⟨_, rfl, ?_, m.fr⟩
    rw [n1_sv, n1_sv] at hs
    have hp : ∀ i, i < 8 → 0 ≤ d i ∧ d i < 18446744073709551616 := hd
    have e8 : sv d 8 = sv d 4 + d 4 * 18446744073709551616 ^ 4 + d 5 * 18446744073709551616 ^ 5 + d 6 * 18446744073709551616 ^ 6 + d 7 * 18446744073709551616 ^ 7 := rfl
    have e4 : sv d 4 = a * 3 := by
      have a4 := hp 4 (by omega)
      have a5 := hp 5 (by omega)
      have a6 := hp 6 (by omega)
      have a7 := hp 7 (by omega)
      have s0 := sv_nonneg hd4
      omega
    unfold cmp4
    rw [n1_sv, e4]
    split
    · simp; omega
    · split
      · simp; omega
      · simp; omega
end Go.Proofs.YtpcgkfgppfjnlaaGreatDoor.V
namespace Go.Proofs.YtpcgkfgppfjnlaaGreatDoor.V
open Go Go.RowKit
variable {P : Program}

theorem growBy_le (n : Nat) : ∀ k c, c ≤ 2 * n + 192 → Builtin.growBy n k c ≤ 2 * n + 192
  | 0, c, h => by unfold Builtin.growBy; exact h
  | k + 1, c, h => by
    unfold Builtin.growBy
    split
    · omega
    · exact growBy_le n k _ (by omega)
theorem nextcap_le {n c : Nat} (h : c < n) : Builtin.nextslicecap n c ≤ 2 * n + 192 := by
  unfold Builtin.nextslicecap
  split
  · omega
  · split
    · omega
    · exact growBy_le n 4 c (by omega)

variable {S : Nat → Prop} {w0 w : World} {L : List (Nat × Bk)}
/-- some of the blocks at hand -/
theorem Lo.sub (m : Lo S w0 w L) {M : List (Nat × Bk)} (h : ∀ p ∈ M, p ∈ L) (hn : (M.map (·.1)).Nodup) : Lo S w0 w M :=
  ⟨m.fr, fun p hp => m.has p (h p hp), fun p hp => m.new p (h p hp), hn⟩
theorem Lo.front {M : List (Nat × Bk)} (m : Lo S w0 w (L ++ M)) : Lo S w0 w L :=
  m.sub (fun p hp => by simp [hp]) (by have := m.nd; rw [List.map_append, List.nodup_append] at this; exact this.1)
theorem Lo.back {M : List (Nat × Bk)} (m : Lo S w0 w (L ++ M)) : Lo S w0 w M :=
  m.sub (fun p hp => by simp [hp]) (by have := m.nd; rw [List.map_append, List.nodup_append] at this; exact this.2.1)
theorem Lo.perm {M : List (Nat × Bk)} (m : Lo S w0 w L) (h : L.Perm M) : Lo S w0 w M :=
  m.sub (fun _p hp => h.mem_iff.mpr hp) ((h.map _).nodup_iff.mp m.nd)

/-- the block of a slice that grows -/
def gl (s : Sl) (cs : List Value) : List (Nat × Bk) :=
  match s.p with
  | none => []
  | some a => if s.cap = 0 then [] else [(a.block, .cs cs)]
theorem gl_nd {s : Sl} {cs : List Value} : ((gl s cs).map (·.1)).Nodup := by
  unfold gl
  split
  · simp
  · split <;> simp
theorem gl_sub {b n c : Nat} {cs : List Value} {p : Nat × Bk} (h : p ∈ gl ⟨some ⟨b, 0, none⟩, n, c⟩ cs) : p = (b, .cs cs) := by
  unfold gl at h
  simp only at h
  split at h <;> simp at h
  exact h
theorem gl_some {b n c : Nat} {cs : List Value} (h : c ≠ 0) : gl ⟨some ⟨b, 0, none⟩, n, c⟩ cs = [(b, .cs cs)] := by simp [gl, h]
/-- a slice that grows: what it holds -/
structure Gs (s : Sl) (sz : Nat) (cs vs : List Value) : Prop where
  len : vs.length = s.len * sz
  le : s.len ≤ s.cap
  cap : cs.length = s.cap * sz
  take : cs.take (s.len * sz) = vs
  p0 : s.p = none → s.cap = 0
  off : ∀ a, s.p = some a → s.cap ≠ 0 → a.off = 0 ∧ a.spot = none
theorem Gs.nil (sz : Nat) : Gs ⟨none, 0, 0⟩ sz [] [] := ⟨by simp, by simp, by simp, by simp, fun _ => rfl, fun _ h => by simp at h⟩
theorem Gs.slc {M : List (Nat × Bk)} {s : Sl} {sz : Nat} {cs vs : List Value} (h : Gs s sz cs vs) (m : Lo S w0 w (L ++ (gl s cs ++ M))) : SlC w s sz vs := by
  refine ⟨h.len, h.le, ?_⟩
  obtain ⟨p, n, c⟩ := s
  cases p with
  | none => exact h.p0 rfl
  | some a =>
    intro hc
    obtain ⟨h1, h2⟩ := h.off a rfl hc
    obtain ⟨b, o, q⟩ := a
    obtain rfl : o = 0 := h1
    obtain rfl : q = none := h2
    have hc : c ≠ 0 := hc
    have h3 : Has w b (.cs cs) := m.has (b, .cs cs) (by simp [gl, hc])
    refine ⟨rfl, h3.lt, ?_⟩
    refine Own.at h3 fun i hi => ?_
    have ht := h.take
    simp only at ht
    rw [← ht] at hi ⊢
    rw [List.length_take] at hi
    rw [List.getElem?_take, if_pos (by omega)]
    simp
/-- a slice that stands in a whole block -/
theorem Gs.block {b n sz : Nat} {cs : List Value} (h : cs.length = n * sz) : Gs ⟨some ⟨b, 0, none⟩, n, n⟩ sz cs cs :=
  ⟨h, Nat.le_refl _, h, by rw [List.take_of_length_le (by simp only; omega)], fun h => by simp at h, fun a h _ => by simp at h; subst h; exact ⟨rfl, rfl⟩⟩

theorem zeroCells_len (z : Array Value) (n : Nat) : (Builtin.zeroCells z n).size = n * z.size := by simp [Builtin.zeroCells]

/-- append to a slice that grows -/
theorem Lo.app {M : List (Nat × Bk)} {s : Sl} {cs vs us : List Value} {x : Value} {e : TypeId} {sz bytes : Nat} {z : Value} {K : Sl → World → Prop} (m : Lo S w0 w (L ++ (gl s cs ++ M))) (g : Gs s sz cs vs)
    (e1 : sizeT P e = some sz) (e2 : (P.info? e).map (·.bytes) = some bytes) (e3 : zeroT P e = some z) (hz : z.cells.size = sz) (_hsz : 0 < sz) (hb0 : 0 < bytes)
    (hx : srcIs w sz x (lenV x) us) (hus : us.length = lenV x * sz) (hsc : ∀ v ∈ us, scal v = true)
    (hbig : s.len + lenV x ≤ 1099511627776) (hb : bytes ≤ 64)
    (hK : ∀ s' cs' w', Lo S w0 w' (L ++ (gl s' cs' ++ M)) → Gs s' sz cs' (vs ++ us) → s'.len = s.len + lenV x → Fr (fun c => s.in (· = c)) w w' → (∀ c, s'.in (· = c) → s.in (· = c) ∨ w.heap.size ≤ c) → K s' w') : appP P e w s x K := by
  unfold appP
  rw [e1, e2, e3]
  refine ⟨us, hx, fun hle => ?_, fun hgt => ?_⟩
  · obtain ⟨p, n, c⟩ := s
    cases p with
    | none =>
      have hc : c = 0 := g.p0 rfl
      simp only at hle
      have hu : us = [] := List.length_eq_zero_iff.mp (by rw [hus, show lenV x = 0 by omega]; simp)
      subst hu
      exact hK _ cs w m ⟨by rw [List.append_nil]; simpa [show lenV x = 0 by omega] using g.len, hle, g.cap, by simpa [show lenV x = 0 by omega] using g.take, g.p0, g.off⟩ rfl (.refl _) fun _ h => .inl h
    | some a =>
      by_cases hc0 : c = 0
      · subst hc0
        simp only at hle
        have hu : us = [] := List.length_eq_zero_iff.mp (by rw [hus, show lenV x = 0 by omega]; simp)
        subst hu
        refine ⟨trivial, ?_⟩
        exact hK _ cs w m ⟨by rw [List.append_nil]; simpa [show lenV x = 0 by omega] using g.len, hle, g.cap, by simpa [show lenV x = 0 by omega] using g.take, g.p0, g.off⟩ rfl (.refl _) fun _ h => .inl h
      obtain ⟨h1, h2⟩ := g.off a rfl hc0
      obtain ⟨b, o, q⟩ := a
      obtain rfl : o = 0 := h1
      obtain rfl : q = none := h2
      have g1 := g.len; have g2 := g.cap; have g3 := g.take; have g4 := g.le
      simp only at g1 g2 g3 g4 hle
      have hlc : n * sz + us.length ≤ cs.length := by rw [hus, g2, ← Nat.add_mul]; exact Nat.mul_le_mul_right _ hle
      have hi : (L ++ (gl ⟨some ⟨b, 0, none⟩, n, c⟩ cs ++ M))[L.length]? = some (b, .cs cs) := by
        rw [List.getElem?_append_right (Nat.le_refl _)]; simp [gl, hc0]
      show V.wr w (Addr.add ⟨b, 0, none⟩ (n * sz)) us _
      rw [add_lit, Nat.zero_add]
      refine wr_own (m.at L.length hi) hlc hsc fun w' f' o' _ => ?_
      have m' := m.turn L.length (y := .cs (cs.take (n * sz) ++ us ++ cs.drop (n * sz + us.length))) hi f' o'
      refine hK _ (cs.take (n * sz) ++ us ++ cs.drop (n * sz + us.length)) w' ?_ ⟨?_, hle, ?_, ?_, fun h => by simp at h, fun a h _ => by simp at h; subst h; exact ⟨rfl, rfl⟩⟩ rfl (f'.mono fun c _ e => ⟨hc0, e.symm⟩) fun _ h => .inl h
      · rw [List.set_append_right _ _ (Nat.le_refl _)] at m'
        simpa [gl, hc0] using m'
      · rw [List.length_append, g1, hus, Nat.add_mul]
      · rw [List.length_append, List.length_append, List.length_take, List.length_drop]; simp only; omega
      · rw [g3, List.take_append_of_le_length (by rw [List.length_append, g1, hus, Nat.add_mul]; exact Nat.le_refl _), List.take_of_length_le (by rw [List.length_append, g1, hus, Nat.add_mul]; exact Nat.le_refl _)]
  · refine ⟨hb0, ?_, vs, (g.slc m).src, fun cap n' hcap => ?_⟩
    · have := nextcap_le hgt
      have h2 : Builtin.nextslicecap (s.len + lenV x) s.cap * bytes ≤ (2 * (s.len + lenV x) + 192) * 64 := Nat.mul_le_mul this hb
      omega
    · have hcs : (vs ++ us).toArray ++ Builtin.zeroCells z.cells (cap - (s.len + lenV x)) = (vs ++ us ++ (Builtin.zeroCells z.cells (cap - (s.len + lenV x))).toList).toArray := by
        apply Array.ext'; simp
      rw [hcs]
      have g1 := g.len
      have hvu : (vs ++ us).length = (s.len + lenV x) * sz := by rw [List.length_append, g1, hus, Nat.add_mul]
      refine al_cells fun b w' hb' hfr _ ho' => ?_
      have m' := (m.drw n').push (x := .cs (vs ++ us ++ (Builtin.zeroCells z.cells (cap - (s.len + lenV x))).toList)) (by rw [hb']; exact Nat.le_refl _) hfr ho'
      refine hK _ (vs ++ us ++ (Builtin.zeroCells z.cells (cap - (s.len + lenV x))).toList) w' ?_ ⟨hvu, hcap, ?_, ?_, fun h => by simp at h, fun a h _ => by simp at h; subst h; exact ⟨rfl, rfl⟩⟩ rfl (Fr.drw' (hfr.mono fun _ _ x => x.elim)) (fun c h => .inr (by have h : b = c := h.2; subst h; rw [hb']; exact Nat.le_refl _))
      · have hnd := m'.nd
        rw [gl_some (show cap ≠ 0 by omega)]
        refine m'.sub (fun p hp => ?_) ?_
        · simp only [List.mem_append, List.mem_cons, List.not_mem_nil, or_false] at hp ⊢
          rcases hp with h | h | h
          · exact .inr (.inl h)
          · exact .inl h
          · exact .inr (.inr (.inr h))
        · have h1 : List.Sublist ((b, Bk.cs (vs ++ us ++ (Builtin.zeroCells z.cells (cap - (s.len + lenV x))).toList)) :: (L ++ M)) ((b, Bk.cs (vs ++ us ++ (Builtin.zeroCells z.cells (cap - (s.len + lenV x))).toList)) :: (L ++ (gl s cs ++ M))) :=
            .cons_cons _ (.append (.refl _) (List.sublist_append_right _ _))
          have h2 := List.Nodup.sublist (h1.map (·.1)) hnd
          exact ((List.perm_middle (a := (b, Bk.cs (vs ++ us ++ (Builtin.zeroCells z.cells (cap - (s.len + lenV x))).toList))) (l₁ := L) (l₂ := M)).map (·.1)).nodup_iff.mpr h2
      · rw [List.length_append, hvu, Array.length_toList, zeroCells_len, hz, ← Nat.add_mul]; congr 1; simp only; omega
      · rw [List.take_append_of_le_length (by rw [hvu]; exact Nat.le_refl _), List.take_of_length_le (by rw [hvu]; exact Nat.le_refl _)]
end Go.Proofs.YtpcgkfgppfjnlaaGreatDoor.V
namespace Go.Proofs.YtpcgkfgppfjnlaaGreatDoor.V
open Go Go.RowKit

abbrev u (x : UInt32) : Int := (x.toNat : Int)
theorem u_lt (x : UInt32) : u x < 4294967296 := by have := x.toNat_lt; show (x.toNat : Int) < _; omega
theorem u_bv (x : UInt32) : BitVec.ofInt 32 (u x) = x.toBitVec := by
  show BitVec.ofInt 32 (x.toNat : Int) = _
  rw [BitVec.ofInt_natCast]; show BitVec.ofNat 32 x.toBitVec.toNat = _; simp
theorem u_wrap (x : UInt32) : IntKind.wrap .u32 (u x) = u x := by
  have := u_lt x
  rw [w_u32]; exact Int.emod_eq_of_lt (by show (0 : Int) ≤ (x.toNat : Int); omega) this
theorem u_add (a b : UInt32) : IntKind.wrap .u32 (u a + u b) = u (a + b) := by
  rw [w_u32]; show _ = (((a + b).toNat : Nat) : Int)
  rw [UInt32.toNat_add]; show ((a.toNat : Int) + b.toNat) % _ = _; omega
theorem u_of (x : BitVec 32) : IntKind.wrap .u32 (x.toNat : Int) = u ⟨x⟩ := by
  rw [w_u32]; show _ = ((x.toNat : Nat) : Int)
  have := x.isLt; omega
theorem u_xor (a b : UInt32) : ixor .u32 (u a) (u b) = u (a ^^^ b) := by
  show IntKind.wrap .u32 ((BitVec.ofInt 32 (u a) ^^^ BitVec.ofInt 32 (u b)).toNat : Int) = _
  rw [u_bv, u_bv, u_of]; rfl
theorem u_and (a b : UInt32) : iand .u32 (u a) (u b) = u (a &&& b) := by
  show IntKind.wrap .u32 ((BitVec.ofInt 32 (u a) &&& BitVec.ofInt 32 (u b)).toNat : Int) = _
  rw [u_bv, u_bv, u_of]; rfl
theorem u_or (a b : UInt32) : ior .u32 (u a) (u b) = u (a ||| b) := by
  show IntKind.wrap .u32 ((BitVec.ofInt 32 (u a) ||| BitVec.ofInt 32 (u b)).toNat : Int) = _
  rw [u_bv, u_bv, u_of]; rfl
def sl (x : UInt32) (n : Nat) : UInt32 := ⟨x.toBitVec <<< n⟩
def sr (x : UInt32) (n : Nat) : UInt32 := ⟨x.toBitVec >>> n⟩
theorem u_sl (x : UInt32) (n : Nat) (h : n ≤ 32) : ishl .u32 (u x) (n : Int) = u (sl x n) := by
  rw [ishl_mul n (by exact h), w_u32]
  show _ = (((x.toBitVec <<< n).toNat : Nat) : Int)
  rw [BitVec.toNat_shiftLeft, Nat.shiftLeft_eq]
  show ((x.toNat : Int) * 2 ^ n) % 4294967296 = (((x.toNat * 2 ^ n) % 2 ^ 32 : Nat) : Int)
  simp
theorem u_sr (x : UInt32) (n : Nat) (h : n ≤ 32) : ishr .u32 (u x) (n : Int) = u (sr x n) := by
  rw [ishr_pos n (by show (0 : Int) ≤ (x.toNat : Int); omega) (by exact h)]
  show _ = (((x.toBitVec >>> n).toNat : Nat) : Int)
  rw [BitVec.toNat_ushiftRight, Nat.shiftRight_eq_div_pow]
  show (x.toNat : Int) / 2 ^ n = ((x.toNat / 2 ^ n : Nat) : Int)
  simp
/-- turned right -/
def rr (x : UInt32) (n : Nat) : UInt32 := sr x n ||| sl x (32 - n)

def big0 (x : UInt32) : UInt32 := rr x 2 ^^^ rr x 13 ^^^ rr x 22
def big1 (x : UInt32) : UInt32 := rr x 6 ^^^ rr x 11 ^^^ rr x 25
def sm0 (x : UInt32) : UInt32 := rr x 7 ^^^ rr x 18 ^^^ sr x 3
def sm1 (x : UInt32) : UInt32 := rr x 17 ^^^ rr x 19 ^^^ sr x 10
def cubes : List UInt32 := [0x428a2f98, 0x71374491, 0xb5c0fbcf, 0xe9b5dba5, 0x3956c25b, 0x59f111f1, 0x923f82a4, 0xab1c5ed5, 0xd807aa98, 0x12835b01, 0x243185be, 0x550c7dc3, 0x72be5d74, 0x80deb1fe, 0x9bdc06a7, 0xc19bf174,
  0xe49b69c1, 0xefbe4786, 0x0fc19dc6, 0x240ca1cc, 0x2de92c6f, 0x4a7484aa, 0x5cb0a9dc, 0x76f988da, 0x983e5152, 0xa831c66d, 0xb00327c8, 0xbf597fc7, 0xc6e00bf3, 0xd5a79147, 0x06ca6351, 0x14292967,
  0x27b70a85, 0x2e1b2138, 0x4d2c6dfc, 0x53380d13, 0x650a7354, 0x766a0abb, 0x81c2c92e, 0x92722c85, 0xa2bfe8a1, 0xa81a664b, 0xc24b8b70, 0xc76c51a3, 0xd192e819, 0xd6990624, 0xf40e3585, 0x106aa070,
  0x19a4c116, 0x1e376c08, 0x2748774c, 0x34b0bcb5, 0x391c0cb3, 0x4ed8aa4a, 0x5b9cca4f, 0x682e6ff3, 0x748f82ee, 0x78a5636f, 0x84c87814, 0x8cc70208, 0x90befffa, 0xa4506ceb, 0xbef9a3f7, 0xc67178f2]
structure St where
  a : UInt32
  b : UInt32
  c : UInt32
  d : UInt32
  e : UInt32
  f : UInt32
  g : UInt32
  h : UInt32
deriving DecidableEq
def St.get (s : St) : Nat → UInt32
  | 0 => s.a | 1 => s.b | 2 => s.c | 3 => s.d | 4 => s.e | 5 => s.f | 6 => s.g | _ => s.h
def squares : St := ⟨0x6a09e667, 0xbb67ae85, 0x3c6ef372, 0xa54ff53a, 0x510e527f, 0x9b05688c, 0x1f83d9ab, 0x5be0cd19⟩
/-- four bytes as a word -/
def word (l : List UInt8) (i : Nat) : UInt32 := UInt32.ofNat (bval ((l.drop (4 * i)).take 4))
def nextW (l : List UInt32) (i : Nat) : UInt32 := l.getD (i - 16) 0 + l.getD (i - 7) 0 + sm0 (l.getD (i - 15) 0) + sm1 (l.getD (i - 2) 0)
/-- the first words of a block's row -/
def sched (l : List UInt8) : Nat → List UInt32
  | 0 => []
  | n + 1 => sched l n ++ [if n < 16 then word l n else nextW (sched l n) n]
def round (s : St) (k w : UInt32) : St :=
  let x := s.h + big1 s.e + ((s.e &&& s.f) ^^^ (~~~ s.e &&& s.g)) + k + w
  ⟨x + (big0 s.a + ((s.a &&& s.b) ^^^ (s.a &&& s.c) ^^^ (s.b &&& s.c))), s.a, s.b, s.c, s.d + x, s.e, s.f, s.g⟩
def rounds (s : St) (W : List UInt32) : Nat → St
  | 0 => s
  | n + 1 => round (rounds s W n) (cubes.getD n 0) (W.getD n 0)
def plus (s t : St) : St := ⟨s.a + t.a, s.b + t.b, s.c + t.c, s.d + t.d, s.e + t.e, s.f + t.f, s.g + t.g, s.h + t.h⟩
def compress (s : St) (l : List UInt8) : St := plus s (rounds s (sched l 64) 64)
/-- the words behind the first n blocks -/
def hst (l : List UInt8) : Nat → St
  | 0 => squares
  | n + 1 => compress (hst l n) ((l.drop (64 * n)).take 64)
def pad (l : List UInt8) : List UInt8 := l ++ 128 :: (List.replicate ((119 - l.length % 64) % 64) 0 ++ be 8 (8 * l.length))
def outB (s : St) : List UInt8 := be 4 s.a.toNat ++ be 4 s.b.toNat ++ be 4 s.c.toNat ++ be 4 s.d.toNat ++ be 4 s.e.toNat ++ be 4 s.f.toNat ++ be 4 s.g.toNat ++ be 4 s.h.toNat
def shaOf (l : List UInt8) : List UInt8 := outB (hst (pad l) ((pad l).length / 64))

theorem sched_len (l : List UInt8) : ∀ n, (sched l n).length = n
  | 0 => rfl
  | n + 1 => by rw [sched, List.length_append, sched_len l n]; rfl
theorem sched_get (l : List UInt8) {i : Nat} : ∀ {n m : Nat}, i < n → n ≤ m → (sched l m).getD i 0 = (sched l n).getD i 0
  | n, 0, h, h2 => by omega
  | n, m + 1, h, h2 => by
    rcases Nat.lt_or_ge m n with q | q
    · obtain rfl : n = m + 1 := by omega
      rfl
    · rw [← sched_get l h q, sched, List.getD_eq_getElem?_getD, List.getD_eq_getElem?_getD, List.getElem?_append_left (by rw [sched_len]; omega)]
theorem sched_last (l : List UInt8) (n : Nat) : (sched l (n + 1)).getD n 0 = if n < 16 then word l n else nextW (sched l n) n := by
  rw [sched, List.getD_eq_getElem?_getD, List.getElem?_append_right (by rw [sched_len]; omega), sched_len]
  simp
theorem hst_app (l x : List UInt8) : ∀ n, 64 * n ≤ l.length → hst (l ++ x) n = hst l n
  | 0, _ => rfl
  | n + 1, h => by
    rw [hst, hst, hst_app l x n (by omega), List.drop_append_of_le_length (by omega), List.take_append_of_le_length (by rw [List.length_drop]; omega)]
theorem pad_len (l : List UInt8) : (pad l).length % 64 = 0 := by
  simp only [pad, List.length_append, List.length_cons, List.length_replicate, be_len]
  omega

/-! the programs' ways to say the same -/
theorem ch1 (e f g : UInt32) : g ^^^ (e &&& (f ^^^ g)) = (e &&& f) ^^^ (~~~ e &&& g) := by
  apply UInt32.toBitVec_inj.mp
  apply BitVec.eq_of_getLsbD_eq; intro i hi
  simp [hi]
  cases e.toBitVec[i] <;> cases f.toBitVec[i] <;> cases g.toBitVec[i] <;> rfl
theorem maj1 (a b c : UInt32) : (a &&& b) ||| (c &&& (a ||| b)) = (a &&& b) ^^^ (a &&& c) ^^^ (b &&& c) := by
  apply UInt32.toBitVec_inj.mp
  apply BitVec.eq_of_getLsbD_eq; intro i hi
  simp [hi]
  cases a.toBitVec[i] <;> cases b.toBitVec[i] <;> cases c.toBitVec[i] <;> rfl
theorem ch2 (e f g : UInt32) : (e &&& f) ||| (~~~ e &&& g) = (e &&& f) ^^^ (~~~ e &&& g) := by
  apply UInt32.toBitVec_inj.mp
  apply BitVec.eq_of_getLsbD_eq; intro i hi
  simp [hi]
  cases e.toBitVec[i] <;> cases f.toBitVec[i] <;> cases g.toBitVec[i] <;> rfl
theorem maj2 (a b c : UInt32) : (a &&& b) ||| (a &&& c) ||| (b &&& c) = (a &&& b) ^^^ (a &&& c) ^^^ (b &&& c) := by
  apply UInt32.toBitVec_inj.mp
  apply BitVec.eq_of_getLsbD_eq; intro i hi
  simp [hi]
  cases a.toBitVec[i] <;> cases b.toBitVec[i] <;> cases c.toBitVec[i] <;> rfl
theorem or_comm32 (a b : UInt32) : a ||| b = b ||| a := by
  apply UInt32.toBitVec_inj.mp
  exact BitVec.or_comm ..
theorem u_not (x : UInt32) : IntKind.wrap .u32 (4294967295 - u x) = u (~~~ x) := by
  have := u_lt x
  rw [w_u32]
  show _ = ((x.toBitVec.not.toNat : Nat) : Int)
  have e : x.toBitVec.not.toNat = 4294967295 - x.toNat := by
    show (~~~ x.toBitVec).toNat = _
    rw [BitVec.toNat_not]; rfl
  rw [e]
  show (4294967295 - (x.toNat : Int)) % _ = _
  have : (x.toNat : Int) < 4294967296 := this
  omega
/-- a sum of what shares no bit -/
theorem rr_sum (x : UInt32) {n : Nat} (h : 0 < n) (h2 : n < 32) : IntKind.wrap .u32 (u (sr x n) + u (sl x (32 - n))) = u (rr x n) := by
  rw [u_add]
  congr 2
  apply UInt32.toBitVec_inj.mp
  show (sr x n).toBitVec + (sl x (32 - n)).toBitVec = (sr x n).toBitVec ||| (sl x (32 - n)).toBitVec
  refine BitVec.add_eq_or_of_and_eq_zero _ _ ?_
  apply BitVec.eq_of_getLsbD_eq; intro i hi
  simp only [sr, sl, BitVec.getLsbD_and, BitVec.getLsbD_ushiftRight, BitVec.getLsbD_shiftLeft, BitVec.getLsbD_zero]
  rcases Nat.lt_or_ge i (32 - n) with q | q
  · simp [q]
  · have : x.toBitVec.getLsbD (n + i) = false := BitVec.getLsbD_of_ge _ _ (by omega)
    simp [this]
end Go.Proofs.YtpcgkfgppfjnlaaGreatDoor.V
namespace Go.Proofs.YtpcgkfgppfjnlaaGreatDoor.V
open Go Go.RowKit

def uv (l : List UInt32) : List Value := l.map fun x => .int .u32 (u x)
theorem uv_get (l : List UInt32) (i : Nat) : (uv l)[i]? = l[i]?.map fun x => .int .u32 (u x) := by simp [uv]
def sqL : List UInt32 := [0x6a09e667, 0xbb67ae85, 0x3c6ef372, 0xa54ff53a, 0x510e527f, 0x9b05688c, 0x1f83d9ab, 0x5be0cd19]
/-- how many blocks the variables of the program take, at least -/
abbrev GN : Nat := Nat.max (Nat.max 2 3) 0 + 1
/-- the program's tables -/
structure Gb (w : World) : Prop where
  size : GN ≤ w.heap.size
  cub : atC w ⟨2, 0, none⟩ 0 (uv cubes)
  sq : atC w ⟨3, 0, none⟩ 0 (uv sqL)
  lim : atC w ⟨0, 0, none⟩ 0 (cellsA .u64 (n1 9223372036854775808) 0 4)
theorem Gb.fr {w w' : World} (g : Gb w) {S : Nat → Prop} (h : Fr S w w') (hs : ∀ b, S b → GN ≤ b) : Gb w' :=
  ⟨Nat.le_trans g.size h.size, g.cub.fr h fun x => absurd (hs _ x) (by decide), g.sq.fr h fun x => absurd (hs _ x) (by decide), g.lim.fr h fun x => absurd (hs _ x) (by decide)⟩
theorem Gb.fr0 {w w' : World} (g : Gb w) (h : Fr F0 w w') : Gb w' := g.fr h fun _ x => x.elim
theorem atC_rd {w : World} {b : Nat} {k : Kd} {vs : List Value} {i : Nat} {K : KT k → Prop} {x : KT k} {v : Value} (h : atC w ⟨b, 0, none⟩ 0 vs) (hk : cellsK k x = [v]) (hv : vs[i]? = some v) (hK : K x) : rd k w ⟨b, i, none⟩ 0 K := by
  refine ⟨x, ?_, hK⟩
  rw [hk]
  refine ⟨?_, trivial⟩
  rw [add_lit]
  have := atC_iff.mp h i v hv
  simpa using this
theorem Gb.cubr {w : World} (g : Gb w) {i : Nat} (hi : i < 64) {K : Int → Prop} (hK : K (u (cubes.getD i 0))) : rd (.int .u32) w ⟨2, i, none⟩ 0 K :=
  atC_rd (k := .int .u32) g.cub rfl (by rw [uv_get, List.getD_eq_getElem?_getD, List.getElem?_eq_getElem (by exact hi)]; rfl) hK
theorem sq_get {i : Nat} (hi : i < 8) : sqL[i]? = some (squares.get i) := by
  match i, hi with
  | 0, _ => rfl | 1, _ => rfl | 2, _ => rfl | 3, _ => rfl | 4, _ => rfl | 5, _ => rfl | 6, _ => rfl | 7, _ => rfl
theorem Gb.sqr {w : World} (g : Gb w) {i : Nat} (hi : i < 8) {K : Int → Prop} (hK : K (u (squares.get i))) : rd (.int .u32) w ⟨3, i, none⟩ 0 K :=
  atC_rd (k := .int .u32) g.sq rfl (by rw [uv_get, sq_get hi]; rfl) hK

/-- a digest's cells -/
def HB (hs wt : Nat → Int) (n : Int) : List Value := cellsA .u32 hs 0 8 ++ (cellsA .u8 wt 0 64 ++ [.int .u64 n])
theorem HB_len (hs wt : Nat → Int) (n : Int) : (HB hs wt n).length = 73 := by simp [HB, cellsA_len]
theorem HB_w {hs wt : Nat → Int} {n : Int} {i : Nat} (h : i < 8) : (HB hs wt n)[i]? = some (.int .u32 (hs i)) := by
  rw [HB, List.getElem?_append_left (by rw [cellsA_len]; exact h), cellsA_at h]
theorem HB_t {hs wt : Nat → Int} {n : Int} {i : Nat} (h : i < 64) : (HB hs wt n)[8 + i]? = some (.int .u8 (wt i)) := by
  rw [HB, List.getElem?_append_right (by rw [cellsA_len]; omega), cellsA_len, List.getElem?_append_left (by rw [cellsA_len]; omega), show 8 + i - 8 = i by omega, cellsA_at h]
theorem HB_n {hs wt : Nat → Int} {n : Int} : (HB hs wt n)[72]? = some (.int .u64 n) := by
  rw [HB, List.getElem?_append_right (by rw [cellsA_len]; omega), cellsA_len, List.getElem?_append_right (by rw [cellsA_len]; omega), cellsA_len]; rfl
theorem HB_setw {hs wt : Nat → Int} {n v : Int} {i : Nat} (h : i < 8) : (HB hs wt n).set i (.int .u32 v) = HB (upd hs i v) wt n := by
  rw [HB, List.set_append_left _ _ (by rw [cellsA_len]; exact h), cellsA_set]; rfl
theorem HB_setn {hs wt : Nat → Int} {n v : Int} : (HB hs wt n).set 72 (.int .u64 v) = HB hs wt v := by
  rw [HB, List.set_append_right _ _ (by rw [cellsA_len]; omega), cellsA_len, List.set_append_right _ _ (by rw [cellsA_len]; omega), cellsA_len]; rfl

theorem nn_some {a : Addr} {K : Addr → Prop} : nn (some a) K = K a := rfl

theorem rot_spec {x : UInt32} {a : Nat} {w : World} (h : 0 < a) (h2 : a < 32) :
    callP Tryz.prog 119 #[.int .u32 (u x), .int .i64 (IntKind.wrap .i64 (0 - (a : Int)))] w fun v w' => v = .int .u32 (u (rr x a)) ∧ Fr F0 w w' := by
  refine math_bits_RotateLeft32_ok ?_
  unfold math_bits_RotateLeft32
  have e1 : iand .u64 (IntKind.wrap .u64 (IntKind.wrap .i64 (0 - (a : Int)))) 31 = ((32 - a : Nat) : Int) := by
    rw [w_i64 (by omega) (by omega), w_u64]
    have := iand_mask (k := .u64) (n := 5) rfl (x := (0 - (a : Int)) % 18446744073709551616) (by omega) (by show _ < (18446744073709551616 : Int); omega) (by decide)
    rw [show ((2 : Int) ^ 5 - 1) = 31 from rfl] at this
    rw [this]
    omega
  have e2 : IntKind.wrap .u64 (32 - ((32 - a : Nat) : Int)) = ((a : Nat) : Int) := by rw [w_u64]; omega
  rw [e1, e2]
  refine ⟨by omega, by omega, ?_, .refl w⟩
  rw [u_sl _ _ (by omega), u_sr _ _ (by omega), u_or, or_comm32]
  rfl

theorem moved_spec {x : UInt32} {a b c : Nat} {w : World} (ha : 0 < a) (ha2 : a < 32) (hb : 0 < b) (hb2 : b < 32) (hc : c < 32) :
    callP Tryz.prog 108 #[.int .u32 (u x), .int .i64 (a : Int), .int .i64 (b : Int), .int .i64 (c : Int)] w fun v w' => v = .int .u32 (u (rr x a ^^^ rr x b ^^^ sr x c)) ∧ Fr F0 w w' := by
  refine sha_moved_ok ?_
  unfold sha_moved
  refine (Lo.start (S := F0) w).dr fun w1 m => ⟨by omega, ?_⟩
  refine callP_of (rot_spec ha ha2) ?_
  rintro v w2 ⟨rfl, h1⟩
  refine ⟨_, rfl, ?_⟩
  refine callP_of (rot_spec hb hb2) ?_
  rintro v w3 ⟨rfl, h2⟩
  refine ⟨_, rfl, ?_, ((m.keep h1).keep h2).fr⟩
  rw [u_xor, u_sr _ _ (by omega), u_xor]
theorem turned_spec {x : UInt32} {a b c : Nat} {w : World} (ha : 0 < a) (ha2 : a < 32) (hb : 0 < b) (hb2 : b < 32) (hc : 0 < c) (hc2 : c < 32) :
    callP Tryz.prog 109 #[.int .u32 (u x), .int .i64 (a : Int), .int .i64 (b : Int), .int .i64 (c : Int)] w fun v w' => v = .int .u32 (u (rr x a ^^^ rr x b ^^^ rr x c)) ∧ Fr F0 w w' := by
  refine sha_turned_ok ?_
  unfold sha_turned
  refine callP_of (rot_spec ha ha2) ?_
  rintro v w2 ⟨rfl, h1⟩
  refine ⟨_, rfl, ?_⟩
  refine callP_of (rot_spec hb hb2) ?_
  rintro v w3 ⟨rfl, h2⟩
  refine ⟨_, rfl, ?_⟩
  refine callP_of (rot_spec hc hc2) ?_
  rintro v w4 ⟨rfl, h3⟩
  refine ⟨_, rfl, ?_, (h1.trans0 h2).trans0 h3⟩
  rw [u_xor, u_xor]

/-- the words as they are -/
theorem now_spec {b : Nat} {hs wt : Nat → Int} {n : Int} {s : St} {w : World} (g : Gb w) (ho : Own w b (HB hs wt n)) (hh : ∀ i, i < 8 → hs i = u (s.get i ^^^ squares.get i)) :
    callP Tryz.prog 86 #[.pointer (some ⟨b, 0, none⟩)] w fun v w' => v = arrV .u32 8 (fun i => u (s.get i)) ∧ Fr F0 w w' := by
  refine sha_Hash_now_ok ?_
  unfold sha_Hash_now
  refine (Lo.start (S := F0) w).al fun b2 w1 _ m => ?_
  rw [nn_some]
  have ho1 := ho.fr m.fr id
  refine rd_of (k := .arr .u32 8) hs (Own.at ho1 fun i hi => ?_) ?_
  · simp only [cellsK, cellsA_len] at hi
    simp only [cellsK, Nat.zero_add]
    rw [HB_w hi, cellsA_at hi]
  refine m.al fun b3 w2 _ m => ?_
  refine m.wrA 0 rfl fun w3 m => ?_
  refine ⟨fun x9 w' => ∃ (d : Nat → Int) (i : Nat), Lo F0 w w' [(b3, .cs (cellsA .u32 d 0 8)), (b2, .cs (cellsA .u32 (fun _ => 0) 0 8))] ∧ x9 = i ∧ i ≤ 8 ∧ (∀ j, j < i → d j = u (s.get j)) ∧ (∀ j, i ≤ j → j < 8 → d j = hs j),
    fun x9 _ => (8 - x9).toNat, ⟨hs, 0, m, rfl, by omega, fun _ h => by omega, fun _ _ _ => rfl⟩, ?_⟩
  rintro x9 w' K ⟨d, i, m, rfl, h2, h3, h4⟩ hK
  refine br_lt (fun h => ?_) fun h => ?_
  · refine m.dr fun w' m => ?_
    simp (disch := omega) only [w_i64, add_lit, Nat.mul_one, Nat.zero_add, Int.toNat_natCast]
    refine ⟨by omega, m.rda 0 rfl (by omega) ⟨by omega, (g.fr0 m.fr).sqr (by omega) ⟨by omega, m.wra 0 rfl (by omega) fun w' m => ?_⟩⟩⟩
    refine hK _ _ ⟨_, i + 1, m, by omega, by omega, fun j hj => ?_, fun j hj hj2 => ?_⟩ (by dsimp only; omega)
    · rcases Nat.lt_or_ge j i with q | q
      · rw [upd_ne _ _ _ _ (by omega)]; exact h3 j q
      · obtain rfl : j = i := by omega
        rw [upd_at, h4 j (by omega) (by omega), hh j (by omega), u_xor]
        congr 1
        apply UInt32.toBitVec_inj.mp
        show (s.get j).toBitVec ^^^ (squares.get j).toBitVec ^^^ (squares.get j).toBitVec = _
        rw [BitVec.xor_assoc, BitVec.xor_self, BitVec.xor_zero]
    · rw [upd_ne _ _ _ _ (by omega)]; exact h4 j (by omega) hj2
  · obtain rfl : i = 8 := by omega
    refine m.rdA 0 rfl (m.wrA 1 rfl fun w' m => m.rdA 1 rfl ⟨?_, m.fr⟩)
    exact arrV_ext fun i hi => h3 i hi
end Go.Proofs.YtpcgkfgppfjnlaaGreatDoor.V
namespace Go.Proofs.YtpcgkfgppfjnlaaGreatDoor.V
open Go Go.RowKit

theorem u8_u32 (b : UInt8) : IntKind.wrap .u32 (b.toNat : Int) = (b.toNat : Int) := by
  have := u8_lt b
  rw [w_u32]; omega
theorem word4 (a b c d : UInt8) : ior .u32 (ior .u32 (ior .u32 (ishl .u32 (IntKind.wrap .u32 (a.toNat : Int)) 24) (ishl .u32 (IntKind.wrap .u32 (b.toNat : Int)) 16)) (ishl .u32 (IntKind.wrap .u32 (c.toNat : Int)) 8)) (IntKind.wrap .u32 (d.toNat : Int)) =
    u (UInt32.ofNat (bval [a, b, c, d])) := by
  have h1 := u8_lt a
  have h2 := u8_lt b
  have h3 := u8_lt c
  have h4 := u8_lt d
  simp only [u8_u32]
  have e1 : ishl .u32 (a.toNat : Int) 24 = (a.toNat : Int) * 16777216 := by
    rw [show (24 : Int) = ((24 : Nat) : Int) from rfl, ishl_mul 24 (by decide), w_u32]; omega
  have e2 : ishl .u32 (b.toNat : Int) 16 = (b.toNat : Int) * 65536 := by
    rw [show (16 : Int) = ((16 : Nat) : Int) from rfl, ishl_mul 16 (by decide), w_u32]; omega
  have e3 : ishl .u32 (c.toNat : Int) 8 = (c.toNat : Int) * 256 := by
    rw [show (8 : Int) = ((8 : Nat) : Int) from rfl, ishl_mul 8 (by decide), w_u32]; omega
  rw [e1, e2, e3]
  rw [ior_add (k := .u32) (n := 24) (a := (a.toNat : Int) * 16777216) (b := (b.toNat : Int) * 65536) rfl (by omega) (by omega) (by omega) (by omega) (by show _ < (4294967296 : Int); omega)]
  rw [ior_add (k := .u32) (n := 16) (a := (a.toNat : Int) * 16777216 + (b.toNat : Int) * 65536) (b := (c.toNat : Int) * 256) rfl (by omega) (by omega) (by omega) (by omega) (by show _ < (4294967296 : Int); omega)]
  rw [ior_add (k := .u32) (n := 8) (a := (a.toNat : Int) * 16777216 + (b.toNat : Int) * 65536 + (c.toNat : Int) * 256) (b := (d.toNat : Int)) rfl (by omega) (by omega) (by omega) (by omega) (by show _ < (4294967296 : Int); omega)]
  show _ = ((UInt32.ofNat (bval [a, b, c, d])).toNat : Int)
  rw [UInt32.toNat_ofNat_of_lt' (by simp only [bval, List.foldl]; show _ < 4294967296; omega)]
  simp only [bval, List.foldl]
  omega
theorem word_eq {l : List UInt8} {i : Nat} {a b c d : UInt8} (h1 : l[4 * i]? = some a) (h2 : l[4 * i + 1]? = some b) (h3 : l[4 * i + 2]? = some c) (h4 : l[4 * i + 3]? = some d) : word l i = UInt32.ofNat (bval [a, b, c, d]) := by
  unfold word
  congr 2
  apply List.ext_getElem?; intro j
  rw [List.getElem?_take]
  match j with
  | 0 => simpa using h1
  | 1 => simpa using h2
  | 2 => simpa using h3
  | 3 => simpa using h4
  | j + 4 => rw [if_neg (by omega)]; rfl
theorem next_eq {l : List UInt8} {i : Nat} (h : 16 ≤ i) : (sched l (i + 1)).getD i 0 = (sched l i).getD (i - 16) 0 + (sched l i).getD (i - 7) 0 + sm0 ((sched l i).getD (i - 15) 0) + sm1 ((sched l i).getD (i - 2) 0) := by
  rw [sched_last, if_neg (by omega)]; rfl
theorem atC_own {w : World} {b o : Nat} {cs : List Value} {k : IntKind} {x : Int} (h : Own w b cs) (hx : cs[o]? = some (.int k x)) : atC w ⟨b, o, none⟩ 0 [.int k x] :=
  Own.at h (by intro j hj; simp at hj; subst hj; simpa using hx)

set_option maxRecDepth 4000 in
theorem press_spec {b : Nat} {hs wt : Nat → Int} {n : Int} {s : St} {l : List UInt8} {w : World} (g : Gb w) (hb : GN ≤ b) (ho : Own w b (HB hs wt n)) (hh : ∀ i, i < 8 → hs i = u (s.get i ^^^ squares.get i))
    (hl : l.length = 64) (hw : ∀ (i : Nat) (x : UInt8), l[i]? = some x → wt i = (x.toNat : Int)) :
    callP Tryz.prog 83 #[.pointer (some ⟨b, 0, none⟩)] w fun v w' => v = .tuple #[] ∧ Fr (· = b) w w' ∧
      ∃ hs', Own w' b (HB hs' wt n) ∧ ∀ i, i < 8 → hs' i = u ((compress s l).get i ^^^ squares.get i) := by
  refine sha_Hash_press_ok ?_
  unfold sha_Hash_press
  simp only [nn_some]
  have hS : ∀ c, (· = b) c → GN ≤ c := fun c e => by subst e; exact hb
  refine (Lo.start1 (S := (· = b)) (x := .cs (HB hs wt n)) rfl ho).al fun b2 w1 _ m => ?_
  refine ⟨fun x18 w' => ∃ (d : Nat → Int) (i : Nat), Lo (· = b) w w' [(b2, .cs (cellsA .u32 d 0 64)), (b, .cs (HB hs wt n))] ∧ x18 = i ∧ i ≤ 64 ∧ (∀ j, j < i → d j = u ((sched l i).getD j 0)),
    fun x18 _ => (64 - x18).toNat, ⟨_, 0, m, rfl, by omega, fun _ h => by omega⟩, ?_⟩
  rintro x18 w' K ⟨d, i, m, rfl, h2, h3⟩ hK
  refine br_lt (fun h => ?_) fun h => ?_
  · refine br_lt (fun h' => ?_) fun h' => ?_
    · refine m.dr fun w' m => ?_
      have hget : ∀ j, j < 64 → ∃ x : UInt8, l[j]? = some x ∧ (HB hs wt n)[8 + j]? = some (.int .u8 (x.toNat : Int)) := fun j hj =>
        ⟨l[j]'(by omega), List.getElem?_eq_getElem (by omega), by rw [HB_t hj, hw j _ (List.getElem?_eq_getElem (by omega))]⟩
      obtain ⟨x0, y0, z0⟩ := hget (4 * i) (by omega)
      obtain ⟨x1, y1, z1⟩ := hget (4 * i + 1) (by omega)
      obtain ⟨x2, y2, z2⟩ := hget (4 * i + 2) (by omega)
      obtain ⟨x3, y3, z3⟩ := hget (4 * i + 3) (by omega)
      have t0 : (4 * (i : Int)).toNat = 4 * i := by omega
      have t1 : (4 * (i : Int) + 1).toNat = 4 * i + 1 := by omega
      have t2 : (4 * (i : Int) + 2).toNat = 4 * i + 2 := by omega
      have t3 : (4 * (i : Int) + 3).toNat = 4 * i + 3 := by omega
      simp (disch := omega) only [w_i64, add_lit, Nat.mul_one, Nat.zero_add, Int.toNat_natCast, t0, t1, t2, t3]
      refine ⟨by omega, m.rd1 1 rfl z0 ⟨by omega, by omega, m.rd1 1 rfl z1 ⟨by omega, by omega, m.rd1 1 rfl z2 ⟨by omega, by omega, m.rd1 1 rfl z3 ⟨by omega, m.wra 0 rfl (by omega) fun w' m => ?_⟩⟩⟩⟩⟩
      refine hK _ _ ⟨_, i + 1, m, by omega, by omega, fun j hj => ?_⟩ (by dsimp only; omega)
      rcases Nat.lt_or_ge j i with q | q
      · rw [upd_ne _ _ _ _ (by omega), h3 j q, sched_get l (n := i) (m := i + 1) q (by omega)]
      · obtain rfl : j = i := by omega
        rw [upd_at, sched_last, if_pos (by omega), word_eq y0 y1 y2 y3, word4]
    · refine m.dr fun w' m => ?_
      have t0 : ((i : Int) - 16).toNat = i - 16 := by omega
      have t1 : ((i : Int) - 7).toNat = i - 7 := by omega
      have t2 : ((i : Int) - 15).toNat = i - 15 := by omega
      have t3 : ((i : Int) - 2).toNat = i - 2 := by omega
      simp (disch := omega) only [w_i64, add_lit, Nat.mul_one, Nat.zero_add, Int.toNat_natCast, t0, t1, t2, t3]
      have g0 := h3 (i - 16) (by omega)
      have g1 := h3 (i - 7) (by omega)
      have g2 := h3 (i - 15) (by omega)
      have g3 := h3 (i - 2) (by omega)
      have a0 : (cellsA .u32 d 0 64)[i - 16]? = some (.int .u32 (d (i - 16))) := cellsA_at (by omega)
      have a1 : (cellsA .u32 d 0 64)[i - 7]? = some (.int .u32 (d (i - 7))) := cellsA_at (by omega)
      have a3 : (cellsA .u32 d 0 64)[i - 2]? = some (.int .u32 (d (i - 2))) := cellsA_at (by omega)
      refine ⟨by omega, m.rda 0 rfl (by omega) ⟨by omega, m.rda 0 rfl (by omega) ⟨by omega, m.rda 0 rfl (by omega) ⟨by omega, m.rda 0 rfl (by omega) ?_⟩⟩⟩⟩
      rw [g2, g3]
      refine callP_of (moved_spec (a := 7) (b := 18) (c := 3) (by decide) (by decide) (by decide) (by decide) (by decide)) ?_
      rintro v w' ⟨rfl, f1⟩
      have m := m.keep f1
      refine ⟨_, rfl, ?_⟩
      rw [← g3]
      refine ⟨atC_own (m.at 0 rfl) a3, atC_own (m.at 0 rfl) a1, atC_own (m.at 0 rfl) a0, ?_⟩
      rw [g3]
      refine callP_of (moved_spec (a := 17) (b := 19) (c := 10) (by decide) (by decide) (by decide) (by decide) (by decide)) ?_
      rintro v w' ⟨rfl, f2⟩
      have m := m.keep f2
      refine ⟨_, rfl, atC_own (m.at 0 rfl) a1, atC_own (m.at 0 rfl) a0, by omega, m.wra 0 rfl (by omega) fun w' m => ?_⟩
      refine hK _ _ ⟨_, i + 1, m, by omega, by omega, fun j hj => ?_⟩ (by dsimp only; omega)
      rcases Nat.lt_or_ge j i with q | q
      · rw [upd_ne _ _ _ _ (by omega), h3 j q, sched_get l (n := i) (m := i + 1) q (by omega)]
      · obtain rfl : j = i := by omega
        rw [upd_at, next_eq (by omega), g0, g1, u_add, u_add, u_add]
        rfl
  · obtain rfl : i = 64 := by omega
    refine callP_of (now_spec (g.fr m.fr hS) (m.at 1 rfl) hh) ?_
    rintro v w2 ⟨rfl, f1⟩
    have m := m.keep f1
    refine ⟨_, rfl, m.al fun b4 w3 _ m => m.wrA 0 rfl fun w4 m => m.dr fun w5 m => ?_⟩
    simp only [add_lit, Nat.mul_one, Nat.zero_add]
    refine ⟨by omega, m.rda 0 rfl (by decide) ⟨by omega, m.rda 0 rfl (by decide) ⟨by omega, m.rda 0 rfl (by decide) ⟨by omega, m.rda 0 rfl (by decide) ⟨by omega, m.rda 0 rfl (by decide) ⟨by omega, m.rda 0 rfl (by decide)
      ⟨by omega, m.rda 0 rfl (by decide) ⟨by omega, m.rda 0 rfl (by decide) ?_⟩⟩⟩⟩⟩⟩⟩⟩
    refine ⟨fun x5 x6 x7 x8 x9 x10 x11 x12 x108 w' => ∃ (t : St) (i : Nat), Lo (· = b) w w' [(b4, .cs (cellsA .u32 (fun i => u (s.get i)) 0 8)), (b2, .cs (cellsA .u32 d 0 64)), (b, .cs (HB hs wt n))] ∧ x108 = i ∧ i ≤ 64 ∧ t = rounds s (sched l 64) i ∧
      x5 = u t.a ∧ x6 = u t.b ∧ x7 = u t.c ∧ x8 = u t.d ∧ x9 = u t.e ∧ x10 = u t.f ∧ x11 = u t.g ∧ x12 = u t.h,
      fun _ _ _ _ _ _ _ _ x108 _ => (64 - x108).toNat, ⟨s, 0, m, rfl, by omega, rfl, rfl, rfl, rfl, rfl, rfl, rfl, rfl, rfl⟩, ?_⟩
    rintro x5 x6 x7 x8 x9 x10 x11 x12 x108 w' K1 ⟨t, i, m, rfl, i2, i3, rfl, rfl, rfl, rfl, rfl, rfl, rfl, rfl⟩ hK1
    refine br_lt (fun h => ?_) fun h => ?_
    · refine m.dr fun w' m => ?_
      simp (disch := omega) only [w_i64, Int.toNat_natCast]
      have hi : i < 64 := by omega
      refine ⟨by omega, (g.fr m.fr hS).cubr hi ⟨by omega, m.rda 1 rfl (by omega) ?_⟩⟩
      refine callP_of (turned_spec (a := 6) (b := 11) (c := 25) (by decide) (by decide) (by decide) (by decide) (by decide) (by decide)) ?_
      rintro v w' ⟨rfl, f1⟩
      have m := m.keep f1
      refine ⟨_, rfl, atC_own (m.at 1 rfl) (cellsA_at (by omega)), ?_, ?_⟩
      · exact (g.fr m.fr hS).cubr (K := fun x => x = u (cubes.getD i 0)) hi rfl |>.elim fun x hx => by
          obtain ⟨hx, rfl⟩ := hx
          exact hx
      refine callP_of (turned_spec (a := 2) (b := 13) (c := 22) (by decide) (by decide) (by decide) (by decide) (by decide) (by decide)) ?_
      rintro v w' ⟨rfl, f2⟩
      have m := m.keep f2
      refine ⟨_, rfl, ?_⟩
      rw [h3 i hi]
      simp only [u_add, u_xor, u_and, u_or]
      refine hK1 _ _ _ _ _ _ _ _ _ _ ⟨round t (cubes.getD i 0) ((sched l 64).getD i 0), i + 1, m, by omega, by omega, by rw [i3]; rfl, ?_, rfl, rfl, rfl, ?_, rfl, rfl, rfl⟩ (by dsimp only; omega)
      · rw [ch1, maj1]; rfl
      · rw [ch1]; rfl
    · obtain rfl : i = 64 := by omega
      refine ⟨fun x165 w' => ∃ (hs' : Nat → Int) (i : Nat), Lo (· = b) w w' [(b4, .cs (cellsA .u32 (fun i => u (s.get i)) 0 8)), (b2, .cs (cellsA .u32 d 0 64)), (b, .cs (HB hs' wt n))] ∧ x165 = i ∧ i ≤ 8 ∧
        (∀ j, j < i → hs' j = u ((compress s l).get j ^^^ squares.get j)), fun x _ => (8 - x).toNat, ⟨hs, 0, m, rfl, by omega, fun _ h => by omega⟩, ?_⟩
      rintro x165 w' K2 ⟨hs', i, m, rfl, j2, j3⟩ hK2
      refine br_lt (fun h => ?_) fun h => ?_
      · refine ⟨by omega, u (t.get i), ?_, m.dr fun w' m => ?_⟩
        · have hi : i < 8 := by omega
          match i, hi with
          | 0, _ => rfl | 1, _ => rfl | 2, _ => rfl | 3, _ => rfl | 4, _ => rfl | 5, _ => rfl | 6, _ => rfl | 7, _ => rfl
        · simp (disch := omega) only [w_i64, Int.toNat_natCast]
          refine ⟨by omega, m.rda 0 rfl (by omega) ⟨by omega, (g.fr m.fr hS).sqr (by omega) ⟨by omega, m.wr1 2 rfl (by rw [HB_len]; omega) rfl fun w' m => ?_⟩⟩⟩
          rw [HB_setw (by omega)] at m
          refine hK2 _ _ ⟨_, i + 1, m, by omega, by omega, fun j hj => ?_⟩ (by dsimp only; omega)
          rcases Nat.lt_or_ge j i with q | q
          · rw [upd_ne _ _ _ _ (by omega)]; exact j3 j q
          · obtain rfl : j = i := by omega
            have hi : j < 8 := by omega
            rw [upd_at, u_add, u_xor, i3]
            congr 2
            match j, hi with
            | 0, _ => rfl | 1, _ => rfl | 2, _ => rfl | 3, _ => rfl | 4, _ => rfl | 5, _ => rfl | 6, _ => rfl | 7, _ => rfl
      · obtain rfl : i = 8 := by omega
        exact ⟨trivial, m.fr, hs', m.at 2 rfl, j3⟩
end Go.Proofs.YtpcgkfgppfjnlaaGreatDoor.V
namespace Go.Proofs.YtpcgkfgppfjnlaaGreatDoor.V
open Go Go.RowKit

structure HV (hs wt : Nat → Int) (n : Int) (l : List UInt8) : Prop where
  n : n = (l.length : Int)
  big : l.length < 1152921504606846976
  hs : ∀ i, i < 8 → hs i = u ((hst l (l.length / 64)).get i ^^^ squares.get i)
  wt : ∀ i, i < l.length % 64 → ∀ x : UInt8, l[64 * (l.length / 64) + i]? = some x → wt i = (x.toNat : Int)
/-- a digest that has had these bytes -/
def HashIs (w : World) (b : Nat) (l : List UInt8) : Prop := ∃ hs wt n, Own w b (HB hs wt n) ∧ HV hs wt n l
theorem HashIs.fr {w w' : World} {b : Nat} {l : List UInt8} (h : HashIs w b l) {S : Nat → Prop} (hf : Fr S w w') (hs : ¬ S b) : HashIs w' b l := by
  obtain ⟨a1, a2, a3, h1, h2⟩ := h
  exact ⟨a1, a2, a3, h1.fr hf hs, h2⟩

def updr (wt : Nat → Int) (at' : Nat) (y : List UInt8) : Nat → Int := fun i => if at' ≤ i ∧ i < at' + y.length then ((y.getD (i - at') 0).toNat : Int) else wt i
theorem HB_copy {hs wt : Nat → Int} {n : Int} {a : Nat} {y : List UInt8} (h : a + y.length ≤ 64) :
    (HB hs wt n).take (8 + a) ++ bv y ++ (HB hs wt n).drop (8 + a + (bv y).length) = HB hs (updr wt a y) n := by
  rw [bv_len]
  have hl := HB_len hs wt n
  apply List.ext_getElem?; intro i
  rcases Nat.lt_or_ge i 8 with q | q
  · rw [HB_w q, List.append_assoc, List.getElem?_append_left (by rw [List.length_take]; omega), List.getElem?_take, if_pos (by omega), HB_w q]
  · obtain ⟨j, rfl⟩ : ∃ j, i = 8 + j := ⟨i - 8, by omega⟩
    rcases Nat.lt_or_ge j 64 with q2 | q2
    · rw [HB_t q2]
      rcases Nat.lt_or_ge j a with r | r
      · rw [List.append_assoc, List.getElem?_append_left (by rw [List.length_take]; omega), List.getElem?_take, if_pos (by omega), HB_t q2]
        simp only [updr]
        rw [if_neg (by omega)]
      · rcases Nat.lt_or_ge j (a + y.length) with r2 | r2
        · rw [List.append_assoc, List.getElem?_append_right (by rw [List.length_take]; omega), List.getElem?_append_left (by rw [List.length_take, bv_len]; omega), List.length_take, bv_get]
          simp only [updr]
          rw [if_pos (by omega), show 8 + j - min (8 + a) (HB hs wt n).length = j - a by omega, List.getD_eq_getElem?_getD, List.getElem?_eq_getElem (by omega)]
          rfl
        · rw [List.getElem?_append_right (by rw [List.length_append, List.length_take, bv_len]; omega), List.length_append, List.length_take, bv_len, List.getElem?_drop, show 8 + a + y.length + (8 + j - (min (8 + a) (HB hs wt n).length + y.length)) = 8 + j by omega, HB_t q2]
          simp only [updr]
          rw [if_neg (by omega)]
    · rcases Nat.lt_or_ge j 65 with q3 | q3
      · obtain rfl : j = 64 := by omega
        show _ = (HB hs (updr wt a y) n)[72]?
        rw [HB_n, List.getElem?_append_right (by rw [List.length_append, List.length_take, bv_len]; omega), List.length_append, List.length_take, bv_len, List.getElem?_drop, show 8 + a + y.length + (8 + 64 - (min (8 + a) (HB hs wt n).length + y.length)) = 72 by omega, HB_n]
      · rw [List.getElem?_eq_none (by rw [List.length_append, List.length_append, List.length_take, bv_len, List.length_drop]; omega), List.getElem?_eq_none (by rw [HB_len]; omega)]

theorem HV.step {hs wt : Nat → Int} {n : Int} {l y : List UInt8} (h : HV hs wt n l) (hy : l.length % 64 + y.length < 64) (hb : l.length + y.length < 1152921504606846976) :
    HV hs (updr wt (l.length % 64) y) ((l.length + y.length : Nat) : Int) (l ++ y) := by
  have e : (l ++ y).length / 64 = l.length / 64 := by rw [List.length_append]; omega
  refine ⟨by simp, by rw [List.length_append]; exact hb, fun i hi => ?_, fun i hi x hx => ?_⟩
  · rw [e, hst_app _ _ _ (by omega)]; exact h.hs i hi
  · rw [e] at hx
    rw [List.length_append] at hi
    simp only [updr]
    rcases Nat.lt_or_ge i (l.length % 64) with q | q
    · rw [if_neg (by omega)]
      rw [List.getElem?_append_left (by omega)] at hx
      exact h.wt i q x hx
    · rw [if_pos (by omega)]
      rw [List.getElem?_append_right (by omega), show 64 * (l.length / 64) + i - l.length = i - l.length % 64 by omega] at hx
      rw [List.getD_eq_getElem?_getD, hx]; rfl
theorem HV.full {hs wt : Nat → Int} {n : Int} {l y : List UInt8} (h : HV hs wt n l) (hy : l.length % 64 + y.length = 64) :
    ∀ (i : Nat) (x : UInt8), (((l ++ y).drop (64 * (l.length / 64))).take 64)[i]? = some x → updr wt (l.length % 64) y i = (x.toNat : Int) := by
  intro i x hx
  rw [List.getElem?_take] at hx
  split at hx
  · rename_i hi
    rw [List.getElem?_drop] at hx
    simp only [updr]
    rcases Nat.lt_or_ge i (l.length % 64) with q | q
    · rw [if_neg (by omega)]
      rw [List.getElem?_append_left (by omega)] at hx
      exact h.wt i q x hx
    · rw [if_pos (by omega)]
      rw [List.getElem?_append_right (by omega), show 64 * (l.length / 64) + i - l.length = i - l.length % 64 by omega] at hx
      rw [List.getD_eq_getElem?_getD, hx]; rfl
  · simp at hx

theorem Sl.in_cut {s : Sl} {l sz n m : Nat} {S : Nat → Prop} (h : ¬ s.in S) (hm : m ≤ s.cap) : ¬ (Sl.mk (cutAt s.p s.cap l sz) n m).in S := by
  obtain ⟨p, k, c⟩ := s
  have hm : m ≤ c := hm
  simp only [cutAt]
  cases p with
  | none =>
    intro x
    have : (if c = l then (none : Option Addr) else none.map (fun x : Addr => x.add (l * sz))) = none := by split <;> rfl
    simp only [Sl.in, this] at x
  | some a =>
    by_cases hcl : c = l
    · rw [if_pos hcl]
      intro x
      exact h ⟨fun e => x.1 (show m = 0 by have e : c = 0 := e; omega), x.2⟩
    · rw [if_neg hcl]
      intro x
      apply h
      have x2 : S (a.add (l * sz)).block := x.2
      rw [add_block] at x2
      exact ⟨fun e => x.1 (show m = 0 by have e : c = 0 := e; omega), x2⟩

set_option maxRecDepth 4000 in
theorem Write_spec {b : Nat} {l x : List UInt8} {s : Sl} {w : World} (g : Gb w) (hb : GN ≤ b) (ho : HashIs w b l) (hx : By w s x) (hs : ¬ s.in (· = b)) (hbig : l.length + x.length < 1152921504606846976) :
    callP Tryz.prog 68 #[.pointer (some ⟨b, 0, none⟩), s.v] w fun v w' => v = .tuple #[] ∧ Fr (· = b) w w' ∧ HashIs w' b (l ++ x) := by
  obtain ⟨hs0, wt0, n0, ho, hv0⟩ := ho
  refine sha_Hash_Write_ok ?_
  unfold sha_Hash_Write
  simp only [nn_some]
  have hS : ∀ c, (· = b) c → GN ≤ c := fun c e => by subst e; exact hb
  have m := Lo.start1 (S := (· = b)) (w := w) (x := .cs (HB hs0 wt0 n0)) rfl ho
  refine ⟨fun x1 w' => ∃ hs' wt' n' l1 x2, Lo (· = b) w w' [(b, .cs (HB hs' wt' n'))] ∧ HV hs' wt' n' l1 ∧ By w x1 x2 ∧ ¬ x1.in (· = b) ∧ l1 ++ x2 = l ++ x,
    fun x1 _ => x1.len, ⟨hs0, wt0, n0, l, x, m, hv0, hx, hs, rfl⟩, ?_⟩
  rintro x1 w' K ⟨hs', wt', n', l1, x2, m, hv, h1, h2, h3⟩ hK
  have hlen := h1.len
  have hl1 : l1.length + x2.length = l.length + x.length := by have := congrArg List.length h3; simpa using this
  refine br_gt (fun h => ?_) fun h => ?_
  · simp only [add_lit, Nat.zero_add]
    refine m.rd1 0 rfl HB_n ⟨by omega, ?_⟩
    have hn := hv.n
    subst hn
    have et : Int.tmod (l1.length : Int) 64 = ((l1.length % 64 : Nat) : Int) := by rw [Int.tmod_eq_emod_of_nonneg (by omega)]; omega
    simp (disch := omega) only [et, w_i64, Int.toNat_natCast]
    refine ⟨by omega, ?_⟩
    have ec : cutAt (some (⟨b, 8, none⟩ : Addr)) 64 (l1.length % 64) 1 = some ⟨b, 8 + l1.length % 64, none⟩ := by
      rw [cutAt, if_neg (by omega), Option.map_some, add_lit, Nat.mul_one]
    rw [ec]
    unfold copyP
    have e1 : sizeT Tryz.prog 5 = some 1 := by kernel_rfl
    rw [e1]
    have hmin : Nat.min (lenV (.slice x1.p x1.len x1.cap)) (64 - l1.length % 64) = min x1.len (64 - l1.length % 64) := rfl
    generalize hk : min x1.len (64 - l1.length % 64) = k at hmin
    have hk1 : k ≤ x1.len := by omega
    have hk2 : k ≤ 64 - l1.length % 64 := by omega
    have hk3 : 0 < k := by omega
    have hsrc := (h1.fr m.fr h2).srcn hk1
    rw [Nat.mul_one, show (bv x2).take k = bv (x2.take k) by simp [bv, List.map_take]] at hsrc
    have hyl : (x2.take k).length = k := by rw [List.length_take]; omega
    refine ⟨bv (x2.take k), by rw [hmin]; exact hsrc, ?_⟩
    refine m.wr 0 rfl (by rw [HB_len, bv_len]; omega) (bv_scal _) fun w' m => ?_
    rw [HB_copy (by omega)] at m
    rw [hmin]
    refine ⟨by omega, m.rd1 0 rfl HB_n (m.wr1 0 rfl (by rw [HB_len]; omega) rfl fun w' m => ?_)⟩
    rw [HB_setn] at m
    have en : IntKind.wrap .u64 ((l1.length : Int) + IntKind.wrap .u64 (k : Int)) = ((l1.length + (x2.take k).length : Nat) : Int) := by
      rw [w_u64, w_u64, hyl]; have := hv.big; omega
    rw [en] at m
    have hcut := h1.cut (i := k) (e := x1.len) hk1 (by omega)
    rw [List.take_of_length_le (by rw [List.length_drop]; omega)] at hcut
    have hcut2 := Sl.in_cut (l := k) (sz := 1) (n := x1.len - k) (m := x1.cap - k) h2 (Nat.sub_le _ _)
    have hcat : (l1 ++ x2.take k) ++ x2.drop k = l ++ x := by rw [List.append_assoc, List.take_append_drop]; exact h3
    have ew : IntKind.wrap .i64 (((l1.length % 64 : Nat) : Int) + (k : Int)) = ((l1.length % 64 + k : Nat) : Int) := by rw [w_i64 (by omega) (by omega)]; simp
    refine br_eq (fun h' => ?_) fun h' => ?_
    all_goals rw [ew] at h'
    · have hfull : l1.length % 64 + (x2.take k).length = 64 := by omega
      refine callP_of (press_spec (s := hst (l1 ++ x2.take k) (l1.length / 64)) (l := ((l1 ++ x2.take k).drop (64 * (l1.length / 64))).take 64) (g.fr m.fr hS) hb (m.at 0 rfl) (fun i hi => ?_) ?_ (hv.full hfull)) ?_
      · rw [hst_app _ _ _ (by omega)]; exact hv.hs i hi
      · rw [List.length_take, List.length_drop, List.length_append]; omega
      · rintro v w' ⟨rfl, f1, hs2, o2, q2⟩
        have m := m.turn 0 (y := .cs (HB hs2 _ _)) rfl f1 o2
        refine ⟨rfl, hK _ _ ⟨hs2, _, _, l1 ++ x2.take k, x2.drop k, m, ?_, hcut, hcut2, hcat⟩ (by dsimp only; omega)⟩
        have e : (l1 ++ x2.take k).length / 64 = l1.length / 64 + 1 := by rw [List.length_append]; omega
        refine ⟨by simp, by rw [List.length_append]; omega, fun i hi => ?_, fun i hi => ?_⟩
        · rw [e]; exact q2 i hi
        · rw [List.length_append] at hi; omega
    · refine hK _ _ ⟨hs', _, _, l1 ++ x2.take k, x2.drop k, m, ?_, hcut, hcut2, hcat⟩ (by dsimp only; omega)
      exact hv.step (by omega) (by omega)
  · have : x2 = [] := List.length_eq_zero_iff.mp (by omega)
    subst this
    rw [List.append_nil] at h3
    subst h3
    exact ⟨trivial, m.fr, hs', wt', n', m.at 0 rfl, hv⟩

theorem HB_rdw {w : World} {b : Nat} {hs wt : Nat → Int} {n : Int} (h : Own w b (HB hs wt n)) {K : (Nat → Int) → Prop} (hK : K hs) : rd (.arr .u32 8) w ⟨b, 0, none⟩ 0 K :=
  rd_of (k := .arr .u32 8) hs (Own.at h fun i hi => by
    simp only [cellsK, cellsA_len] at hi
    simp only [cellsK, Nat.zero_add]
    rw [HB_w hi, cellsA_at hi]) hK
theorem HB_rdt {w : World} {b : Nat} {hs wt : Nat → Int} {n : Int} (h : Own w b (HB hs wt n)) {K : (Nat → Int) → Prop} (hK : K wt) : rd (.arr .u8 64) w ⟨b, 0, none⟩ 8 K :=
  rd_of (k := .arr .u8 64) wt (Own.at h fun i hi => by
    simp only [cellsK, cellsA_len] at hi
    simp only [cellsK, Nat.zero_add]
    rw [HB_t hi, cellsA_at hi]) hK

set_option maxRecDepth 4000 in
theorem Copy_spec {b : Nat} {l : List UInt8} {w : World} (ho : HashIs w b l) :
    callP Tryz.prog 85 #[.pointer (some ⟨b, 0, none⟩)] w fun v w' => ∃ b', v = .pointer (some ⟨b', 0, none⟩) ∧ w.heap.size ≤ b' ∧ Fr F0 w w' ∧ HashIs w' b' l := by
  obtain ⟨hs, wt, n, ho, hv⟩ := ho
  refine sha_Hash_Copy_ok ?_
  unfold sha_Hash_Copy
  simp only [nn_some]
  refine HB_rdw ho (HB_rdt ho (rd_of (k := .int .u64) n (Own.at ho fun i hi => ?_) ?_))
  · simp [cellsK] at hi
    subst hi
    simpa [cellsK] using HB_n
  have m := Lo.start (S := F0) w
  refine m.al fun b3 w1 hb3 m => ?_
  refine m.wr 0 rfl (by simp [cellsA_len]) (fun v hv => ?_) fun w2 m => ?_
  · simp only [List.mem_append, List.mem_singleton] at hv
    rcases hv with h | h | h
    · exact cellsA_scal _ _ _ _ v h
    · exact cellsA_scal _ _ _ _ v h
    · subst h; rfl
  · refine ⟨b3, rfl, by omega, m.fr, hs, wt, n, ?_, hv⟩
    have := m.at 0 rfl
    simpa [Has, cellsA_len, HB] using this

theorem HV.empty {hs wt : Nat → Int} (h : ∀ i, i < 8 → hs i = 0) : HV hs wt 0 [] := by
  refine ⟨rfl, by decide, fun i hi => ?_, fun i hi => by simp at hi⟩
  rw [h i hi]
  show (0 : Int) = u (squares.get i ^^^ squares.get i)
  rw [show squares.get i ^^^ squares.get i = 0 from UInt32.toBitVec_inj.mp BitVec.xor_self]
  rfl

set_option maxRecDepth 4000 in
theorem New_spec {w : World} :
    callP Tryz.prog 67 #[] w fun v w' => ∃ b, v = .pointer (some ⟨b, 0, none⟩) ∧ w.heap.size ≤ b ∧ Fr F0 w w' ∧ HashIs w' b [] := by
  refine sha_New_ok ?_
  unfold sha_New
  refine (Lo.start (S := F0) w).al (cs := HB (fun _ => 0) (fun _ => 0) 0) fun b w1 hb m => ?_
  exact ⟨b, rfl, by omega, m.fr, _, _, _, m.at 0 rfl, HV.empty fun _ _ => rfl⟩

theorem outB_len (s : St) : (outB s).length = 32 := by simp [outB, be_len]
theorem outB_get (s : St) {i k : Nat} (hi : i < 8) (hk : k < 4) : (outB s)[4 * i + k]? = some (UInt8.ofNat ((s.get i).toNat / 256 ^ (3 - k))) := by
  have key : ∀ (x : UInt32), (be 4 x.toNat)[k]? = some (UInt8.ofNat (x.toNat / 256 ^ (3 - k))) := fun x => by rw [be_get hk]
  match i, hi with
  | 0, _ => simp only [outB, List.append_assoc]; rw [List.getElem?_append_left (by rw [be_len]; omega), show 4 * 0 + k = k by omega, key]; rfl
  | 1, _ => simp only [outB, List.append_assoc]; repeat rw [List.getElem?_append_right (by rw [be_len]; omega), be_len]
            rw [List.getElem?_append_left (by rw [be_len]; omega), show 4 * 1 + k - 4 = k by omega, key]; rfl
  | 2, _ => simp only [outB, List.append_assoc]; repeat rw [List.getElem?_append_right (by rw [be_len]; omega), be_len]
            rw [List.getElem?_append_left (by rw [be_len]; omega), show 4 * 2 + k - 4 - 4 = k by omega, key]; rfl
  | 3, _ => simp only [outB, List.append_assoc]; repeat rw [List.getElem?_append_right (by rw [be_len]; omega), be_len]
            rw [List.getElem?_append_left (by rw [be_len]; omega), show 4 * 3 + k - 4 - 4 - 4 = k by omega, key]; rfl
  | 4, _ => simp only [outB, List.append_assoc]; repeat rw [List.getElem?_append_right (by rw [be_len]; omega), be_len]
            rw [List.getElem?_append_left (by rw [be_len]; omega), show 4 * 4 + k - 4 - 4 - 4 - 4 = k by omega, key]; rfl
  | 5, _ => simp only [outB, List.append_assoc]; repeat rw [List.getElem?_append_right (by rw [be_len]; omega), be_len]
            rw [List.getElem?_append_left (by rw [be_len]; omega), show 4 * 5 + k - 4 - 4 - 4 - 4 - 4 = k by omega, key]; rfl
  | 6, _ => simp only [outB, List.append_assoc]; repeat rw [List.getElem?_append_right (by rw [be_len]; omega), be_len]
            rw [List.getElem?_append_left (by rw [be_len]; omega), show 4 * 6 + k - 4 - 4 - 4 - 4 - 4 - 4 = k by omega, key]; rfl
  | 7, _ => simp only [outB, List.append_assoc]; repeat rw [List.getElem?_append_right (by rw [be_len]; omega), be_len]
            rw [show 4 * 7 + k - 4 - 4 - 4 - 4 - 4 - 4 - 4 = k by omega, key]; rfl
/-- a digest as an array -/
def dg (l : List UInt8) : Nat → Int := fun i => ((l.getD i 0).toNat : Int)
end Go.Proofs.YtpcgkfgppfjnlaaGreatDoor.V
namespace Go.Proofs.YtpcgkfgppfjnlaaGreatDoor.V
open Go Go.RowKit
variable {S : Nat → Prop} {w0 w : World} {L : List (Nat × Bk)}

theorem Lo.tail {x : Nat × Bk} (m : Lo S w0 w (x :: L)) : Lo S w0 w L := m.sub (fun p hp => by simp [hp]) (List.nodup_cons.mp m.nd).2
theorem Lo.ne (m : Lo S w0 w L) (i j : Nat) {b c : Nat} {x y : Bk} (h : L[i]? = some (b, x)) (h2 : L[j]? = some (c, y)) (hij : i ≠ j) : b ≠ c := by
  intro e
  subst e
  have h1 : (L.map (·.1))[i]? = some b := by simp [h]
  have h3 : (L.map (·.1))[j]? = some b := by simp [h2]
  have := (List.getElem?_inj (by
    rcases Nat.lt_or_ge i (L.map (·.1)).length with h4 | h4
    · exact h4
    · rw [List.getElem?_eq_none h4] at h1; simp at h1) m.nd).mp (h1.trans h3.symm)
  exact hij this
/-- a call that writes a digest at hand -/
theorem Lo.write (m : Lo S w0 w L) (i : Nat) {b : Nat} {hs wt : Nat → Int} {n : Int} {l x : List UInt8} {s : Sl} {K : Value → World → Prop} (h : L[i]? = some (b, .cs (HB hs wt n))) (hv : HV hs wt n l)
    (g : Gb w) (hb : GN ≤ b) (hx : By w s x) (hs : ¬ s.in (· = b)) (hbig : l.length + x.length < 1152921504606846976)
    (hK : ∀ w' hs' wt' n', Lo S w0 w' (L.set i (b, .cs (HB hs' wt' n'))) → HV hs' wt' n' (l ++ x) → Fr (· = b) w w' → K (.tuple #[]) w') :
    callP Tryz.prog 68 #[.pointer (some ⟨b, 0, none⟩), s.v] w K := by
  refine callP_of (Write_spec g hb ⟨_, _, _, m.at i h, hv⟩ hx hs hbig) ?_
  rintro v w' ⟨rfl, f, hs', wt', n', o, hv'⟩
  exact hK w' hs' wt' n' (m.turn i h f o) hv' f
/-- one byte that lies in a block at hand -/
theorem Lo.by1 (m : Lo S w0 w L) (i : Nat) {b : Nat} {x : UInt8} (h : L[i]? = some (b, .cs [.int .u8 (x.toNat : Int)])) : By w ⟨some ⟨b, 0, none⟩, 1, 1⟩ [x] := by
  have := m.slc i h (n := 1) (c := 1) (sz := 1) (by simp) (by omega)
  exact this
def cellN (w : World) (b : Nat) : Nat :=
  match w.cell? ⟨b, 72, none⟩ with
  | some (.int _ n) => n.toNat
  | _ => 0
theorem cellN_of {b : Nat} {hs wt : Nat → Int} {n : Int} {l : List UInt8} (h : Own w b (HB hs wt n)) (hv : HV hs wt n l) : cellN w b = l.length := by
  unfold cellN
  rw [Own.cell h HB_n, hv.n]
  simp

theorem be_cellsA {n N : Nat} {d : Nat → Int} (h : ∀ i, i < n → d i = ((N / 256 ^ (n - 1 - i) % 256 : Nat) : Int)) : cellsA .u8 d 0 n = bv (be n N) := by
  have := cellsA_bv (d := d) (l := be n N) fun k b hb => by
    have hk : k < n := by
      rcases Nat.lt_or_ge k n with q | q
      · exact q
      · rw [List.getElem?_eq_none (by rw [be_len]; exact q)] at hb; simp at hb
    rw [be_get hk] at hb
    obtain rfl : _ = b := by simpa using hb
    rw [h k hk]
    simp
  rw [be_len] at this
  exact this

set_option maxRecDepth 4000 in
set_option maxHeartbeats 1000000 in
theorem Sum_spec {b : Nat} {l : List UInt8} {w : World} (g : Gb w) (ho : HashIs w b l) (hbig : l.length < 1152921504606846000) :
    callP Tryz.prog 70 #[.pointer (some ⟨b, 0, none⟩)] w fun v w' => v = arrV .u8 32 (dg (shaOf l)) ∧ Fr F0 w w' := by
  refine sha_Hash_Sum_ok ?_
  unfold sha_Hash_Sum
  refine (Lo.start (S := F0) w).al fun b2 w1 hb2 m => ?_
  have hG1 := (g.fr0 m.fr).size
  refine callP_of (Copy_spec (ho.fr m.fr id)) ?_
  rintro v w2 ⟨b', rfl, hb', f1, hs, wt, n, o1, hv⟩
  have m := m.push (x := .cs (HB hs wt n)) hb' f1 o1
  have hGb : GN ≤ b' := Nat.le_trans hG1 hb'
  refine ⟨_, rfl, ?_⟩
  simp only [nn_some, add_lit, Nat.zero_add]
  refine m.rd1 0 rfl HB_n ?_
  have hn := hv.n
  subst hn
  refine m.al (cs := [.int .u8 128]) fun b19 w3 _ m => ?_
  refine m.write 1 (s := ⟨some ⟨b19, 0, none⟩, 1, 1⟩) (x := [128]) rfl hv (g.fr0 m.fr) hGb (m.by1 0 (x := 128) rfl) (Sl.out_ne (m.ne 0 1 rfl rfl (by decide))) (by simp; omega) fun w4 hs wt n m hv _ => ?_
  refine ⟨rfl, ?_⟩
  have m := m.tail
  generalize hz : (119 - l.length % 64) % 64 = z
  refine ⟨fun w' => ∃ hs wt n j, Lo F0 w w' [(b', .cs (HB hs wt n)), (b2, .cs (cellsA .u8 (fun _ => 0) 0 32))] ∧ HV hs wt n (l ++ 128 :: List.replicate j 0) ∧ j ≤ z,
    fun w' => l.length + 1 + z - cellN w' b', ⟨hs, wt, n, 0, m, hv, by omega⟩, ?_⟩
  clear hv m
  rintro w5 K ⟨hs, wt, n, j, m, hv, hj⟩ hK
  refine m.rd1 0 rfl HB_n ⟨by omega, ?_⟩
  have hn := hv.n
  have hlen : (l ++ 128 :: List.replicate j (0 : UInt8)).length = l.length + 1 + j := by simp; omega
  rw [hlen] at hn
  have hcN := cellN_of (m.at 0 rfl) hv
  rw [hlen] at hcN
  have ht : Int.tmod n 64 = (((l.length + 1 + j) % 64 : Nat) : Int) := by rw [hn, Int.tmod_eq_emod_of_nonneg (by omega)]; omega
  rw [ht]
  refine br_ne (fun h => ?_) fun h => ?_
  · refine m.al (cs := [.int .u8 0]) fun b28 w6 _ m => ?_
    refine m.write 1 (s := ⟨some ⟨b28, 0, none⟩, 1, 1⟩) (x := [0]) rfl hv (g.fr0 m.fr) hGb (m.by1 0 (x := 0) rfl) (Sl.out_ne (m.ne 0 1 rfl rfl (by decide))) (by rw [hlen]; simp; omega) fun w7 hs wt n m hv _ => ?_
    have e : l ++ 128 :: List.replicate j (0 : UInt8) ++ [0] = l ++ 128 :: List.replicate (j + 1) 0 := by
      rw [List.replicate_succ']; simp
    rw [e] at hv
    have m := m.tail
    have hcN2 := cellN_of (m.at 0 rfl) hv
    refine ⟨rfl, hK _ ⟨hs, wt, n, j + 1, m, hv, by omega⟩ ?_⟩
    dsimp only
    rw [hcN, hcN2]
    simp only [List.length_append, List.length_cons, List.length_replicate]
    omega
  · have hjz : j = z := by omega
    subst hjz
    clear hK
    refine m.al fun b5 w6 _ m => ?_
    refine ⟨fun x30 w' => ∃ (d : Nat → Int) (i : Nat), Lo F0 w w' [(b5, .cs (cellsA .u8 d 0 8)), (b', .cs (HB hs wt n)), (b2, .cs (cellsA .u8 (fun _ => 0) 0 32))] ∧ x30 = i ∧ i ≤ 8 ∧
      (∀ k, k < i → d k = ((8 * l.length / 256 ^ (8 - 1 - k) % 256 : Nat) : Int)), fun x _ => (8 - x).toNat, ⟨_, 0, m, rfl, by omega, fun _ h => by omega⟩, ?_⟩
    clear m
    rintro x30 w7 K1 ⟨d, i, m, rfl, i2, i3⟩ hK1
    refine br_lt (fun h' => ?_) fun h' => ?_
    · simp (disch := omega) only [w_i64, Nat.mul_one, Int.toNat_natCast]
      refine ⟨by omega, by omega, m.wra 0 rfl (by omega) fun w8 m => ?_⟩
      refine hK1 _ _ ⟨_, i + 1, m, by omega, by omega, fun k hk => ?_⟩ (by dsimp only; omega)
      rcases Nat.lt_or_ge k i with q | q
      · rw [upd_ne _ _ _ _ (by omega)]; exact i3 k q
      · obtain rfl : k = i := by omega
        rw [upd_at, w_u64, show (l.length : Int) * 8 % 18446744073709551616 = ((8 * l.length : Nat) : Int) by omega, show (56 - 8 * (k : Int)) = ((56 - 8 * k : Nat) : Int) by omega, ishr_pos _ (by omega) (by show _ ≤ 64; omega), w_u8]
        rw [show (256 : Nat) ^ (8 - 1 - k) = 2 ^ (56 - 8 * k) by rw [show (256 : Nat) = 2 ^ 8 from rfl, ← Nat.pow_mul]; congr 1; omega]
        simp
    · obtain rfl : i = 8 := by omega
      have e8 : cellsA .u8 d 0 8 = bv (be 8 (8 * l.length)) := be_cellsA i3
      rw [e8] at m
      have hc : cutAt (some (⟨b5, 0, none⟩ : Addr)) 8 0 1 = some ⟨b5, 0, none⟩ := rfl
      rw [hc]
      have hby : By w7 ⟨some ⟨b5, 0, none⟩, 8, 8⟩ (be 8 (8 * l.length)) := by
        have := m.slc 0 rfl (n := 8) (c := 8) (sz := 1) (by rw [bv_len, be_len]; omega) (by omega)
        rw [List.take_of_length_le (by rw [bv_len, be_len]; omega)] at this
        exact this
      refine m.write 1 (s := ⟨some ⟨b5, 0, none⟩, 8, 8⟩) (x := be 8 (8 * l.length)) rfl hv (g.fr0 m.fr) hGb hby (Sl.out_ne (m.ne 0 1 rfl rfl (by decide))) (by rw [hlen, be_len]; omega) fun w8 hs wt n m hv _ => ?_
      have hpad : l ++ 128 :: List.replicate j 0 ++ be 8 (8 * l.length) = pad l := by rw [pad, hz]; simp
      rw [hpad] at hv
      refine ⟨rfl, m.al fun b7 w9 _ m => ?_⟩
      refine callP_of (now_spec (s := hst (pad l) ((pad l).length / 64)) (g.fr0 m.fr) (m.at 2 rfl) hv.hs) ?_
      rintro v w10 ⟨rfl, f2⟩
      have m := m.keep f2
      refine ⟨_, rfl, ?_⟩
      refine ⟨fun x47 w' => ∃ (d : Nat → Int) (i : Nat), Lo F0 w w' [(b7, .cs (cellsA .u8 d 0 32)), (b5, .cs (bv (be 8 (8 * l.length)))), (b', .cs (HB hs wt n)), (b2, .cs (cellsA .u8 (fun _ => 0) 0 32))] ∧ x47 = i ∧ i ≤ 8 ∧
        (∀ k, k < 4 * i → d k = dg (shaOf l) k), fun x _ => (8 - x).toNat, ⟨_, 0, m, rfl, by omega, fun _ h => by omega⟩, ?_⟩
      clear m
      rintro x47 w11 K2 ⟨d2, i, m, rfl, j2, j3⟩ hK2
      refine br_lt (fun h' => ?_) fun h' => ?_
      · refine ⟨by omega, u ((hst (pad l) ((pad l).length / 64)).get i), by rw [Int.toNat_natCast, cellsA_at (by omega)], ?_⟩
        refine ⟨fun x51 w' => ∃ (d : Nat → Int) (k : Nat), Lo F0 w w' [(b7, .cs (cellsA .u8 d 0 32)), (b5, .cs (bv (be 8 (8 * l.length)))), (b', .cs (HB hs wt n)), (b2, .cs (cellsA .u8 (fun _ => 0) 0 32))] ∧ x51 = k ∧ k ≤ 4 ∧
          (∀ q, q < 4 * i + k → d q = dg (shaOf l) q), fun x _ => (4 - x).toNat, ⟨_, 0, m, rfl, by omega, fun q h => j3 q (by omega)⟩, ?_⟩
        clear m
        rintro x51 w12 K3 ⟨d3, k, m, rfl, k2, k3⟩ hK3
        refine br_lt (fun h'' => ?_) fun h'' => ?_
        · have e2 : (4 * (i : Int) + (k : Int)).toNat = 4 * i + k := by omega
          simp (disch := omega) only [w_i64, Nat.mul_one, e2]
          refine ⟨by omega, by omega, m.wra 0 rfl (by omega) fun w13 m => ?_⟩
          refine hK3 _ _ ⟨_, k + 1, m, by omega, by omega, fun q hq => ?_⟩ (by dsimp only; omega)
          rcases Nat.lt_or_ge q (4 * i + k) with r | r
          · rw [upd_ne _ _ _ _ (by omega)]; exact k3 q r
          · obtain rfl : q = 4 * i + k := by omega
            have hx := u_lt ((hst (pad l) ((pad l).length / 64)).get i)
            rw [upd_at, show (24 - 8 * (k : Int)) = ((24 - 8 * k : Nat) : Int) by omega, ishr_pos _ (by show (0 : Int) ≤ (UInt32.toNat _ : Int); omega) (by show _ ≤ 32; omega), w_u8]
            unfold dg shaOf
            rw [List.getD_eq_getElem?_getD, outB_get _ (by omega) (by omega)]
            rw [show (256 : Nat) ^ (3 - k) = 2 ^ (24 - 8 * k) by rw [show (256 : Nat) = 2 ^ 8 from rfl, ← Nat.pow_mul]; congr 1; omega]
            simp
        · obtain rfl : k = 4 := by omega
          simp (disch := omega) only [w_i64]
          exact hK2 _ _ ⟨_, i + 1, m, by omega, by omega, fun q hq => k3 q (by omega)⟩ (by dsimp only; omega)
      · obtain rfl : i = 8 := by omega
        refine m.rdA 0 rfl (m.wrA 3 rfl fun w' m => m.rdA 3 rfl ⟨arrV_ext fun i hi => j3 i (by omega), m.fr⟩)
end Go.Proofs.YtpcgkfgppfjnlaaGreatDoor.V
namespace Go.Proofs.YtpcgkfgppfjnlaaGreatDoor.V
open Go Go.RowKit
variable {S : Nat → Prop} {w0 w : World} {L : List (Nat × Bk)}

/-- a slice of slices of bytes -/
def Bs (w : World) (s : Sl) (L : List (Sl × List UInt8)) : Prop := SlC w s 1 (L.map fun p => .slice p.1.p p.1.len p.1.cap) ∧ ∀ p ∈ L, By w p.1 p.2
theorem Bs.len {s : Sl} {L : List (Sl × List UInt8)} (h : Bs w s L) : s.len = L.length := by have := h.1.1; simp at this; omega
theorem Bs.fr0 {w' : World} {s : Sl} {L : List (Sl × List UInt8)} (h : Bs w s L) (hf : Fr F0 w w') : Bs w' s L := ⟨h.1.fr0 hf, fun p hp => (h.2 p hp).fr0 hf⟩
theorem Bs.fr {w' : World} {S : Nat → Prop} {s : Sl} {L : List (Sl × List UInt8)} (h : Bs w s L) (hf : Fr S w w') (h1 : ¬ s.in S) (h2 : ∀ p ∈ L, ¬ p.1.in S) : Bs w' s L := ⟨h.1.fr hf h1, fun p hp => (h.2 p hp).fr hf (h2 p hp)⟩
theorem Bs.rd {s : Sl} {L : List (Sl × List UInt8)} (h : Bs w s L) {i : Int} (hi : 0 ≤ i) (hi2 : i < s.len) {K : Sl → Prop} (hK : ∀ x l, L[i.toNat]? = some (x, l) → By w x l → K x) :
    nn s.p fun a => V.rd .slc w (Addr.add a (i.toNat * 1)) 0 K := by
  have hlen := h.len
  have hlt : i.toNat < L.length := by omega
  have hg := List.getElem?_eq_getElem hlt
  refine SlC.rd h.1 hi hi2 (k := .slc) (x := (L[i.toNat]).1) (v := .slice (L[i.toNat]).1.p (L[i.toNat]).1.len (L[i.toNat]).1.cap) rfl ?_ (hK _ (L[i.toNat]).2 hg (h.2 _ (List.getElem_mem hlt)))
  rw [List.getElem?_map, hg]; rfl

/-- the bytes of a string, anew -/
theorem Lo.s2b (m : Lo S w0 w L) {e : TypeId} {t : ByteArray} {K : Sl → World → Prop} (hK : ∀ s w', Lo S w0 w' L → Fr F0 w w' → By w' s t.data.toList → s.fresh w → K s w') : s2bP e w t K := by
  intro cap n hcap
  refine al_obj fun b w' hb hf _ ho => hK _ w' ?_ (Fr.drw' hf) ⟨?_, hcap, fun _ => ⟨rfl, ?_, ?_⟩⟩ fun a ha _ => ?_
  · exact (m.drw n).keep hf
  · simp [bv]
  · exact Nat.lt_of_not_le fun h => by rw [Array.getElem?_eq_none h] at ho; simp at ho
  · rw [atC_iff]
    intro i v hv
    have hi : i < t.data.size := by
      rw [bv_get] at hv
      rcases Nat.lt_or_ge i t.data.size with q | q
      · exact q
      · rw [List.getElem?_eq_none (by simpa using q)] at hv; simp at hv
    simp only [World.cell?, ho, Nat.zero_add]
    rw [bv_get] at hv
    rw [Array.getElem?_append_left (by simpa using hi), Array.getElem?_map]
    simpa using hv
  · simp at ha
    subst ha
    have : (V.drw w n).heap.size = w.heap.size := rfl
    show _ ≤ b
    omega

/-- what is digested for a purpose -/
def tagIn (tag : List UInt8) (ls : List (List UInt8)) : List UInt8 := be 8 tag.length ++ tag ++ (ls.map fun b => be 8 b.length ++ b).flatten
theorem tagIn_snoc (tag : List UInt8) (ls : List (List UInt8)) (b : List UInt8) : tagIn tag (ls ++ [b]) = tagIn tag ls ++ be 8 b.length ++ b := by simp [tagIn]
theorem tagIn_len_le (tag : List UInt8) (ls : List (List UInt8)) (k : Nat) : (tagIn tag (ls.take k)).length ≤ (tagIn tag ls).length := by
  conv => rhs; rw [← List.take_append_drop k ls]
  simp only [tagIn, List.map_append, List.flatten_append, List.length_append]
  omega

set_option maxRecDepth 4000 in
set_option maxHeartbeats 1000000 in
theorem Tagged_spec {t : ByteArray} {s : Sl} {M : List (Sl × List UInt8)} {w : World} (g : Gb w) (hm : Bs w s M) (hbig : (tagIn t.data.toList (M.map (·.2))).length < 1152921504606846000) (hn : M.length < 4611686018427387904) :
    callP Tryz.prog 44 #[.string t, s.v] w fun v w' => v = arrV .u8 32 (dg (shaOf (tagIn t.data.toList (M.map (·.2))))) ∧ Fr F0 w w' := by
  have hlen := hm.len
  have htl : t.data.toList.length = t.size := by simp
  have hb0 : t.size + 8 < 1152921504606846000 := by
    have : t.data.toList.length + 8 ≤ (tagIn t.data.toList (M.map (·.2))).length := by simp only [tagIn, List.length_append, be_len]; omega
    omega
  refine digest_Tagged_ok ?_
  unfold digest_Tagged
  refine (Lo.start (S := F0) w).al fun b4 w1 hb4 m => ?_
  have hG1 := (g.fr0 m.fr).size
  refine callP_of New_spec ?_
  rintro v w2 ⟨h, rfl, hh, f1, hs, wt, n, o1, hv⟩
  have m := m.push (x := .cs (HB hs wt n)) hh f1 o1
  have hGb : GN ≤ h := Nat.le_trans hG1 hh
  refine ⟨_, rfl, ?_⟩
  have e0 : IntKind.wrap .u64 ((ByteArray.size t : Nat) : Int) = ((t.size : Nat) : Int) := by rw [w_u64]; omega
  rw [e0]
  refine callP_of (number_spec (x := ((t.size : Nat) : Int)) (by omega) (by omega)) ?_
  rintro v w3 ⟨r, rfl, hr, hfr, f2⟩
  have hlt := m.lt (p := (h, .cs (HB hs wt n))) (by simp)
  have hne : ¬ r.in (· = h) := hfr.out fun b e => by subst e; exact hlt
  have m := m.keep f2
  refine ⟨r, rfl, ?_⟩
  refine m.write 0 (s := r) (x := be 8 (t.size : Int).toNat) rfl hv (g.fr0 m.fr) hGb hr hne (by rw [be_len]; simp) fun w4 hs wt n m hv f3 => ?_
  refine ⟨rfl, ?_⟩
  have hlt := m.lt (p := (h, .cs (HB hs wt n))) (by simp)
  refine m.s2b fun r w5 m f4 hr hfr => ?_
  have hne : ¬ r.in (· = h) := hfr.out fun b e => by subst e; exact hlt
  refine m.write 0 (s := r) (x := t.data.toList) rfl hv (g.fr0 m.fr) hGb hr hne (by rw [List.nil_append, be_len, htl]; omega) fun w6 hs wt n m hv f5 => ?_
  refine ⟨rfl, ?_⟩
  rw [List.nil_append, Int.toNat_natCast, ← htl] at hv
  generalize hT : t.data.toList = T at *
  refine ⟨fun x21 w' => ∃ (hs wt : Nat → Int) (n : Int) (i : Nat), Lo F0 w w' [(h, .cs (HB hs wt n)), (b4, .cs (cellsA .u8 (fun _ => 0) 0 32))] ∧ x21 = i ∧ i ≤ M.length ∧ HV hs wt n (tagIn T ((M.map (·.2)).take i)),
    fun x _ => (s.len - x).toNat, ⟨_, _, _, 0, m, rfl, by omega, by simpa [tagIn] using hv⟩, ?_⟩
  clear hv m hs wt n hlt
  rintro x21 w7 K ⟨hs, wt, n, i, m, rfl, i2, hv⟩ hK
  refine br_lt (fun h' => ?_) fun h' => ?_
  · refine ⟨by omega, (hm.fr0 m.fr).rd (by omega) (by omega) fun x l hx hl => ?_⟩
    rw [Int.toNat_natCast] at hx
    have hlx := hl.len
    have hsn : tagIn T ((M.map (·.2)).take (i + 1)) = tagIn T ((M.map (·.2)).take i) ++ be 8 l.length ++ l := by
      rw [List.take_add_one, List.getElem?_map, hx, ← tagIn_snoc]; rfl
    have hle := tagIn_len_le T (M.map (·.2)) (i + 1)
    rw [hsn, List.length_append, List.length_append, be_len] at hle
    have e1 : IntKind.wrap .u64 ((x.len : Nat) : Int) = ((l.length : Nat) : Int) := by rw [w_u64, hlx]; omega
    rw [e1]
    refine callP_of (number_spec (x := ((l.length : Nat) : Int)) (by omega) (by omega)) ?_
    rintro v w8 ⟨r, rfl, hr, hfr, f6⟩
    have hlt := m.lt (p := (h, .cs (HB hs wt n))) (by simp)
    have hne : ¬ r.in (· = h) := hfr.out fun b e => by subst e; exact hlt
    have m := m.keep f6
    refine ⟨r, rfl, ?_⟩
    refine m.write 0 (s := r) (x := be 8 (l.length : Int).toNat) rfl hv (g.fr0 m.fr) hGb hr hne (by rw [be_len]; omega) fun w9 hs wt n m hv f7 => ?_
    refine ⟨rfl, ?_⟩
    have hxn : ¬ x.in (· = h) := by
      refine ((hm.2 (x, l) (List.mem_of_getElem? hx))).out ?_
      have := (m.new (h, .cs (HB hs wt n)) (by simp))
      rcases this with x | x
      · exact x.elim
      · exact x
    refine m.write 0 (s := x) (x := l) rfl hv (g.fr0 m.fr) hGb ((hm.2 (x, l) (List.mem_of_getElem? hx)).fr0 m.fr) hxn (by rw [List.length_append, be_len]; omega) fun w10 hs wt n m hv f8 => ?_
    refine ⟨rfl, ?_⟩
    rw [Int.toNat_natCast, ← hsn] at hv
    simp (disch := omega) only [w_i64]
    exact hK _ _ ⟨hs, wt, n, i + 1, m, by omega, by omega, hv⟩ (by dsimp only; omega)
  · obtain rfl : i = M.length := by omega
    rw [List.take_of_length_le (by simp)] at hv
    refine callP_of (Sum_spec (g.fr0 m.fr) ⟨hs, wt, n, m.at 0 rfl, hv⟩ hbig) ?_
    rintro v w8 ⟨rfl, f6⟩
    have m := m.keep f6
    exact ⟨_, rfl, m.wrA 1 rfl fun w' m => m.rdA 1 rfl ⟨rfl, m.fr⟩⟩

/-- a block's name -/
def nameOf (l : List UInt8) : List UInt8 := shaOf (tagIn [98, 108, 111, 99, 107] [l])
theorem nameOf_len (l : List UInt8) : (nameOf l).length = 32 := outB_len _

set_option maxRecDepth 4000 in
theorem Name_spec {s : Sl} {l : List UInt8} {w : World} (g : Gb w) (hl : By w s l) (hbig : l.length < 1152921504606840000) :
    callP Tryz.prog 23 #[s.v] w fun v w' => v = arrV .u8 32 (dg (nameOf l)) ∧ Fr F0 w w' := by
  refine pool_Name_ok ?_
  unfold pool_Name
  refine (Lo.start (S := F0) w).al fun b2 w1 _ m => ?_
  refine m.al (cs := [.slice s.p s.len s.cap]) fun b4 w2 _ m => ?_
  have hM : Bs w2 ⟨some ⟨b4, 0, none⟩, 1, 1⟩ [(s, l)] := ⟨by
    have := m.slc 0 rfl (n := 1) (c := 1) (sz := 1) (by simp) (by omega)
    exact this, by simpa using hl.fr0 m.fr⟩
  refine callP_of (Tagged_spec (t := ByteArray.mk #[98, 108, 111, 99, 107]) (s := ⟨some ⟨b4, 0, none⟩, 1, 1⟩) (g.fr0 m.fr) hM ?_ (by simp)) ?_
  · show (tagIn [98, 108, 111, 99, 107] [l]).length < _
    simp only [tagIn, List.map_cons, List.map_nil, List.flatten_cons, List.flatten_nil, List.length_append, be_len, List.append_nil, List.length_cons, List.length_nil]
    omega
  · rintro v w3 ⟨rfl, f1⟩
    have m := m.keep f1
    exact ⟨_, rfl, m.wrA 1 rfl fun w' m => m.rdA 1 rfl ⟨rfl, m.fr⟩⟩
end Go.Proofs.YtpcgkfgppfjnlaaGreatDoor.V
