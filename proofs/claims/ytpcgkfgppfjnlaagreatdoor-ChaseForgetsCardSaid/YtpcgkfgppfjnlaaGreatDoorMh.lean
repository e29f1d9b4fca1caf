/-
  CONTRACTS: codec's reader; slices.Clone. | CONTRACTS: slices.Clone, codec's count, Bytes, End. | CONTRACTS: bytes.Equal, slices.ContainsFunc, pool.twice, pool.Unpack. | CONTRACTS: pool.Unpack. | MAPS: a map as a row of keys and values; get, set, delete, new, and going through it. | GOING THROUGH A MAP; the keys' kinds. | CONTRACTS: votes.New, Vote, For, Third. | CONTRACTS: votes.For, Third, New. | CONTRACTS: votes.New, chase.New. | CONTRACTS: chase.New; the tail of chase.Hear. | CONTRACTS: chase.New, chase.Hear. | CONTRACTS: chase.Hear. | CONTRACTS: the iterators of maps.Keys.
-/
import Derived.Test.YtpcgkfgppfjnlaaGreatDoorMg
import Derived.Test.YtpcgkfgppfjnlaaGreatDoorMd
namespace Go.Proofs.YtpcgkfgppfjnlaaGreatDoor.V
open Go Go.RowKit
variable {S : Nat → Prop} {w0 w : World} {L : List (Nat × Bk)}

theorem Own.rds {b o : Nat} {cs : List Value} {s : Sl} {K : Sl → Prop} (h : Own w b cs) (hx : cs[o]? = some (.slice s.p s.len s.cap)) (hK : K s) : rd .slc w ⟨b, o, none⟩ 0 K :=
  rd_of (k := .slc) s (Own.at h (by intro j hj; simp [cellsK] at hj; subst hj; simpa [cellsK] using hx)) hK
theorem Own.rdi {b o : Nat} {cs : List Value} {k : IntKind} {x : Int} {K : Int → Prop} (h : Own w b cs) (hx : cs[o]? = some (.int k x)) (hK : K x) : rd (.int k) w ⟨b, o, none⟩ 0 K :=
  rd_of (k := .int k) x (Own.at h (by intro j hj; simp [cellsK] at hj; subst hj; simpa [cellsK] using hx)) hK
theorem Own.rdp {b o : Nat} {cs : List Value} {x : Option Addr} {K : Option Addr → Prop} (h : Own w b cs) (hx : cs[o]? = some (.pointer x)) (hK : K x) : rd .ptr w ⟨b, o, none⟩ 0 K :=
  rd_of (k := .ptr) x (Own.at h (by intro j hj; simp [cellsK] at hj; subst hj; simpa [cellsK] using hx)) hK
theorem Own.rdm {b o : Nat} {cs : List Value} {x : Option Nat} {K : Option Nat → Prop} (h : Own w b cs) (hx : cs[o]? = some (.map x)) (hK : K x) : rd .map w ⟨b, o, none⟩ 0 K :=
  rd_of (k := .map) x (Own.at h (by intro j hj; simp [cellsK] at hj; subst hj; simpa [cellsK] using hx)) hK

/-- a slice that stands in an old block, or nowhere -/
def Sl.old (s : Sl) (n : Nat) : Prop := ∀ a, s.p = some a → s.cap ≠ 0 → a.block < n
theorem Sl.old.out {s : Sl} {n : Nat} (h : s.old n) {S : Nat → Prop} (hs : ∀ b, S b → n ≤ b) : ¬ s.in S := by
  obtain ⟨p, k, c⟩ := s
  cases p with
  | none => exact id
  | some a =>
    intro x
    have := hs a.block x.2
    have := h a rfl x.1
    omega
theorem Sl.old.cut {s : Sl} {n : Nat} (h : s.old n) {l sz k m : Nat} (hm : m ≤ s.cap) : (Sl.mk (cutAt s.p s.cap l sz) k m).old n := by
  obtain ⟨p, q, c⟩ := s
  intro a ha hc
  have hc : m ≠ 0 := hc
  have hm : m ≤ c := hm
  have hq : c ≠ 0 := by omega
  simp only [cutAt] at ha
  cases p with
  | none => split at ha <;> simp at ha
  | some b =>
    split at ha
    · exact h a ha hq
    · simp at ha
      rw [← ha, add_block]
      exact h b rfl hq
theorem SlC.old {s : Sl} {sz : Nat} {vs : List Value} (h : SlC w s sz vs) : s.old w.heap.size := by
  obtain ⟨p, k, c⟩ := s
  obtain ⟨_, _, h3⟩ := h
  intro a ha hc
  cases p with
  | none => simp at ha
  | some b => simp at ha; subst ha; exact (h3 hc).2.1
theorem By.nil : By w ⟨none, 0, 0⟩ [] := ⟨rfl, Nat.le_refl _, rfl⟩

/-- a reader: what is left, the first error -/
structure Rdr where
  b : List UInt8
  e : Int
deriving DecidableEq
def Rdr.wrong (r : Rdr) (e : Int) : Rdr := if r.e = 0 then ⟨[], e⟩ else r
def Rdr.take (r : Rdr) (n : Nat) : List UInt8 × Rdr :=
  let r := if n > r.b.length then r.wrong 3 else r
  if r.e ≠ 0 then ([], r) else (r.b.take n, ⟨r.b.drop n, r.e⟩)
def Rdr.small (r : Rdr) (limit : Nat) : Nat × Rdr :=
  match r.take 1 with
  | ([], r) => (0, r)
  | (s :: _, r) =>
    let x := if s.toNat ≤ 8 then r.take s.toNat else ([], r)
    let r := if x.2.e ≠ 0 then x.2 else if s.toNat > 8 ∨ x.1.head? = some 0 then x.2.wrong 31 else if bval x.1 > limit then x.2.wrong 2 else x.2
    (if r.e ≠ 0 then 0 else bval x.1, r)
def Rdr.bytes (r : Rdr) (most : Nat) : List UInt8 × Rdr := (r.small most).2.take (r.small most).1
def Rdr.fin (r : Rdr) : Int := if r.e = 0 ∧ r.b ≠ [] then 30 else r.e

/-- a reader in memory -/
def RC (s : Sl) (e : Int) : List Value := [.slice s.p s.len s.cap, .int .i64 e]
def RdIs (n : Nat) (w : World) (b : Nat) (r : Rdr) : Prop := n ≤ b ∧ ∃ s : Sl, Own w b (RC s r.e) ∧ By w s r.b ∧ s.old n
theorem RdIs.fr {n : Nat} {w w' : World} {b : Nat} {r : Rdr} (h : RdIs n w b r) (hf : Fr S w w') (hs : ¬ S b) (h2 : ∀ c, S c → n ≤ c) : RdIs n w' b r := by
  obtain ⟨h1, s, h3, h4, h5⟩ := h
  exact ⟨h1, s, h3.fr hf hs, h4.fr hf (h5.out h2), h5⟩
theorem RdIs.fr0 {n : Nat} {w w' : World} {b : Nat} {r : Rdr} (h : RdIs n w b r) (hf : Fr F0 w w') : RdIs n w' b r := h.fr hf id fun _ x => x.elim

theorem Fr.two {b : Nat} {w w1 w2 : World} (h : Fr (· = b) w w1) (h2 : Fr (· = b) w1 w2) : Fr (· = b) w w2 := h.trans h2 fun _ _ x => x
theorem Fr.one {b : Nat} {w w1 : World} (h : Fr F0 w w1) : Fr (· = b) w w1 := h.mono fun _ _ x => x.elim

theorem wrong_spec {n b : Nat} {r : Rdr} {e : Int} (h : RdIs n w b r) :
    callP Tryz.prog 62 #[.pointer (some ⟨b, 0, none⟩), .int .i64 e] w fun v w' => v = .tuple #[] ∧ Fr (· = b) w w' ∧ RdIs n w' b (r.wrong e) := by
  obtain ⟨h1, s, h3, h4, h5⟩ := h
  refine codec_Reader_wrong_ok ?_
  unfold codec_Reader_wrong
  simp only [nn_some, add_lit, Nat.zero_add]
  refine h3.rdi (o := 1) rfl (br_eq (fun h => ?_) fun h => ?_)
  · refine wr_one h3 (by simp [RC]) rfl fun w1 f1 o1 _ => wr_one o1 (by simp [RC]) rfl fun w2 f2 o2 _ => ?_
    refine ⟨trivial, f1.two f2, h1, ⟨none, 0, 0⟩, ?_, ?_, fun a ha _ => by simp at ha⟩
    · rw [Rdr.wrong, if_pos h]; exact o2
    · rw [Rdr.wrong, if_pos h]; exact By.nil
  · refine ⟨trivial, Fr.refl _, h1, s, ?_⟩
    rw [Rdr.wrong, if_neg h]
    exact ⟨h3, h4, h5⟩

theorem take_ok {n b k : Nat} {r : Rdr} (h : RdIs n w b r) (_hr : r.e = 0) (hk : k ≤ r.b.length) {K : Sl → World → Prop}
    (hK : ∀ s w', Fr (· = b) w w' → RdIs n w' b ⟨r.b.drop k, r.e⟩ → By w' s (r.b.take k) → s.old n → K s w') :
    (rd .slc w ⟨b, 0, none⟩ 0 fun x24 => ((0 : Int) ≤ (k : Int) ∧ (k : Int) ≤ ((x24.cap : Nat) : Int)) ∧ rd .slc w ⟨b, 0, none⟩ 0 fun x31 => ((0 : Int) ≤ (k : Int) ∧ (k : Int) ≤ ((x31.len : Nat) : Int)) ∧
      wr w ⟨b, 0, none⟩ [.slice (cutAt x31.p x31.cap ((k : Int).toNat) 1) (x31.len - ((k : Int).toNat)) (x31.cap - ((k : Int).toNat))] fun w1 => K ⟨cutAt x24.p x24.cap 0 1, (k : Int).toNat, x24.cap⟩ w1) := by
  obtain ⟨h1, s, h3, h4, h5⟩ := h
  have hl := h4.len
  have hc := h4.2.1
  have hS : ∀ c, (· = b) c → n ≤ c := fun c e => by subst e; exact h1
  rw [Int.toNat_natCast]
  refine h3.rds (o := 0) (s := s) rfl ⟨by omega, h3.rds (o := 0) (s := s) rfl ⟨by omega, ?_⟩⟩
  refine wr_one h3 (by simp [RC]) rfl fun w1 f1 o1 _ => ?_
  have c1 := By.cut (h4.fr f1 (h5.out hS)) (i := 0) (e := k) (by omega) (by omega)
  have c2 := By.cut (h4.fr f1 (h5.out hS)) (i := k) (e := s.len) (by omega) (by omega)
  rw [List.take_of_length_le (by rw [List.length_drop]; omega)] at c2
  exact hK _ w1 f1 ⟨h1, ⟨cutAt s.p s.cap k 1, s.len - k, s.cap - k⟩, o1, c2, h5.cut (Nat.sub_le _ _)⟩ c1 (h5.cut (Nat.le_refl _))

theorem take_spec {n b k : Nat} {r : Rdr} (h : RdIs n w b r) (_hk : k < 18446744073709551616) (hb : r.b.length < 18446744073709551616) :
    callP Tryz.prog 60 #[.pointer (some ⟨b, 0, none⟩), .int .u64 (k : Int)] w fun v w' => ∃ s : Sl, v = s.v ∧ Fr (· = b) w w' ∧ RdIs n w' b (r.take k).2 ∧ By w' s (r.take k).1 ∧ s.old n := by
  have h' := h
  obtain ⟨h1, s, h3, h4, h5⟩ := h
  have hl := h4.len
  refine codec_Reader_take_ok ?_
  unfold codec_Reader_take
  simp only [nn_some, add_lit, Nat.zero_add]
  refine h3.rds (o := 0) (s := s) rfl ?_
  have ew : IntKind.wrap .u64 ((s.len : Nat) : Int) = ((r.b.length : Nat) : Int) := by rw [w_u64]; omega
  rw [ew]
  refine br_gt (fun hgt => ?_) fun hgt => ?_
  · refine callP_of (wrong_spec (e := 3) h') ?_
    rintro v w1 ⟨rfl, f1, q⟩
    have q' := q
    obtain ⟨g1, s1, g3, g4, g5⟩ := q
    have hne : (r.wrong 3).e ≠ 0 := by unfold Rdr.wrong; split <;> simp_all
    refine ⟨rfl, g3.rdi (o := 1) rfl (br_ne (fun _ => ?_) fun h => absurd h hne)⟩
    have e1 : r.take k = ([], r.wrong 3) := by
      simp only [Rdr.take]
      rw [if_pos (show k > r.b.length by omega), if_pos hne]
    rw [e1]
    exact ⟨⟨none, 0, 0⟩, rfl, f1, q', By.nil, fun a ha _ => by simp at ha⟩
  · refine h3.rdi (o := 1) rfl (br_ne (fun h => ?_) fun h => ?_)
    · have e1 : r.take k = ([], r) := by
        simp only [Rdr.take]
        rw [if_neg (show ¬ k > r.b.length by omega), if_pos h]
      rw [e1]
      exact ⟨⟨none, 0, 0⟩, rfl, Fr.refl _, h', By.nil, fun a ha _ => by simp at ha⟩
    · have e1 : r.take k = (r.b.take k, ⟨r.b.drop k, r.e⟩) := by
        simp only [Rdr.take]
        rw [if_neg (show ¬ k > r.b.length by omega), if_neg (show ¬ r.e ≠ 0 by omega)]
      rw [e1]
      exact take_ok (K := fun s w' => ∃ t : Sl, s.v = t.v ∧ Fr (· = b) w w' ∧ RdIs n w' b ⟨r.b.drop k, r.e⟩ ∧ By w' t (r.b.take k) ∧ t.old n) h' h (by omega) fun s w' a1 a2 a3 a4 => ⟨s, rfl, a1, a2, a3, a4⟩

theorem bval_lt : ∀ (n : Nat) (l : List UInt8), l.length ≤ n → bval l < 256 ^ n := by
  have key : ∀ (l : List UInt8) (a : Nat), l.foldl (fun n b => n * 256 + b.toNat) a < (a + 1) * 256 ^ l.length := by
    intro l
    induction l with
    | nil => intro a; simp
    | cons b l ih =>
      intro a
      have h1 := ih (a * 256 + b.toNat)
      have h2 := u8_lt b
      simp only [List.foldl_cons, List.length_cons, Nat.pow_succ]
      refine Nat.lt_of_lt_of_le h1 ?_
      have h3 : a * 256 + b.toNat + 1 ≤ (a + 1) * 256 := by omega
      calc (a * 256 + b.toNat + 1) * 256 ^ l.length ≤ ((a + 1) * 256) * 256 ^ l.length := Nat.mul_le_mul_right _ h3
        _ = (a + 1) * (256 ^ l.length * 256) := by rw [Nat.mul_assoc, Nat.mul_comm 256]
  intro n l h
  refine Nat.lt_of_lt_of_le (key l 0) ?_
  rw [Nat.zero_add, Nat.one_mul]
  exact Nat.pow_le_pow_right (by decide) h
theorem Rdr.wrong_ne (r : Rdr) {e : Int} (h : e ≠ 0) : (r.wrong e).e ≠ 0 := by
  unfold Rdr.wrong; split
  · exact h
  · assumption
theorem Rdr.take_eq (r : Rdr) (n : Nat) : r.take n = if n > r.b.length then ([], r.wrong 3) else if r.e ≠ 0 then ([], r) else (r.b.take n, ⟨r.b.drop n, r.e⟩) := by
  simp only [Rdr.take]
  by_cases h : n > r.b.length
  · rw [if_pos h, if_pos h, if_pos (r.wrong_ne (by decide))]
  · rw [if_neg h, if_neg h]
theorem Rdr.take_len (r : Rdr) (n : Nat) : (r.take n).1.length ≤ n := by
  rw [Rdr.take_eq]
  by_cases h : n > r.b.length
  · rw [if_pos h]; exact Nat.zero_le _
  · rw [if_neg h]
    by_cases h2 : r.e ≠ 0
    · rw [if_pos h2]; exact Nat.zero_le _
    · rw [if_neg h2]; simp only [List.length_take]; omega
theorem Rdr.wrong_len (r : Rdr) (e : Int) : (r.wrong e).b.length ≤ r.b.length := by
  unfold Rdr.wrong; split <;> simp
theorem Rdr.take_len2 (r : Rdr) (n : Nat) : (r.take n).2.b.length ≤ r.b.length := by
  rw [Rdr.take_eq]
  by_cases h : n > r.b.length
  · rw [if_pos h]; exact r.wrong_len 3
  · rw [if_neg h]
    by_cases h2 : r.e ≠ 0
    · rw [if_pos h2]; exact Nat.le_refl _
    · rw [if_neg h2]; simp
theorem Rdr.take_ok (r : Rdr) (n : Nat) (h : (r.take n).2.e = 0) : (r.take n).1.length = n := by
  rw [Rdr.take_eq] at h ⊢
  by_cases h1 : n > r.b.length
  · rw [if_pos h1] at h; exact absurd h (r.wrong_ne (by decide))
  · rw [if_neg h1] at h ⊢
    by_cases h2 : r.e ≠ 0
    · rw [if_pos h2] at h; exact absurd h h2
    · rw [if_neg h2]; simp only [List.length_take]; omega

/-- how reading a number ends -/
theorem small_end {n b b7 : Nat} {r : Rdr} {d : Nat → Int} {Q : Value → World → Prop} (h : RdIs n w b r) (h7 : Own w b7 (cellsA .u64 d 0 4)) (hQ : Q (.int .u64 (if r.e ≠ 0 then 0 else d 0)) w) :
    rd (.int .i64) w ⟨b, 1, none⟩ 0 fun x63 => br ((x63 : Int) != 0) (Q (.int .u64 0) w) (((0 : Int) ≤ 0 ∧ 0 < ((4 : Nat) : Int)) ∧ rd (.int .u64) w ⟨b7, 0, none⟩ 0 fun x66 => Q (.int .u64 x66) w) := by
  obtain ⟨h1, s, h3, h4, h5⟩ := h
  refine h3.rdi (o := 1) rfl (br_ne (fun h => ?_) fun h => ?_)
  · rw [if_pos h] at hQ; exact hQ
  · rw [if_neg (by omega)] at hQ
    exact ⟨by omega, h7.rdi (o := 0) (cellsA_at (by decide)) hQ⟩

set_option maxRecDepth 4000 in
set_option maxHeartbeats 1000000 in
theorem Small_spec {n b lim : Nat} {r : Rdr} (h : RdIs n w b r) (_hlim : lim < 18446744073709551616) (hb : r.b.length < 18446744073709551616) :
    callP Tryz.prog 38 #[.pointer (some ⟨b, 0, none⟩), .int .u64 (lim : Int)] w fun v w' => v = .int .u64 ((r.small lim).1 : Int) ∧ Fr (· = b) w w' ∧ RdIs n w' b (r.small lim).2 := by
  suffices H : ∀ Q : Value → World → Prop, (∀ w', Fr (· = b) w w' → RdIs n w' b (r.small lim).2 → Q (.int .u64 ((r.small lim).1 : Int)) w') →
      callP Tryz.prog 38 #[.pointer (some ⟨b, 0, none⟩), .int .u64 (lim : Int)] w Q from H _ fun w' a1 a2 => ⟨rfl, a1, a2⟩
  intro Q hQ
  refine codec_Reader_Small_ok ?_
  unfold codec_Reader_Small
  simp only [nn_some, add_lit, Nat.zero_add]
  refine callP_of (take_spec (k := 1) h (by decide) hb) ?_
  rintro v w1 ⟨s, rfl, f1, q1, hs, so⟩
  refine ⟨s, rfl, ?_⟩
  have hl1 := r.take_len 1
  have hl2 := r.take_len2 1
  unfold Rdr.small at hQ
  generalize r.take 1 = p at *
  obtain ⟨x, r1⟩ := p
  have hsl := hs.len
  simp only at hl1 hl2 hs hsl q1
  match x, hl1, hs, hsl with
  | [], _, hs, hsl =>
    refine br_eq (fun _ => hQ _ f1 q1) fun h => ?_
    simp at hsl; omega
  | [c], _, hs, hsl =>
    simp only [List.length_singleton] at hsl
    have hc := u8_lt c
    have hS : ∀ q, (· = b) q → n ≤ q := fun q e => by subst e; exact q1.1
    have rd0 : ∀ {w' : World} {K : Int → Prop}, Fr (· = b) w1 w' → K (c.toNat : Int) → nn s.p fun a => rd (.int .u8) w' (Addr.add a ((0 : Int).toNat * 1)) 0 K := fun hf hK =>
      By.rd (hs.fr hf (so.out hS)) (by omega) (by omega) fun b hb => by simp at hb; subst hb; exact hK
    simp only at hQ
    refine br_eq (fun h => by omega) fun _ => ⟨by omega, rd0 (.refl _) ?_⟩
    refine br_le (fun hle => ?_) fun hle => ?_
    · refine ⟨by omega, rd0 (.refl _) ?_⟩
      have e1 : IntKind.wrap .u64 ((c.toNat : Nat) : Int) = ((c.toNat : Nat) : Int) := by rw [w_u64]; omega
      rw [e1]
      rw [if_pos (show c.toNat ≤ 8 by omega)] at hQ
      refine callP_of (take_spec (k := c.toNat) q1 (by omega) (by omega)) ?_
      rintro v w2 ⟨s2, rfl, f2, q2, hs2, so2⟩
      refine ⟨s2, rfl, ?_⟩
      have hl3 := r1.take_len c.toNat
      have hok := r1.take_ok c.toNat
      generalize r1.take c.toNat = p2 at *
      obtain ⟨y, r2⟩ := p2
      simp only at q2 hs2 hl3 hok hQ
      refine callP_of (limb_Of_spec hs2) ?_
      rintro v w3 ⟨d, hd, f3, hv⟩
      rw [if_pos (by omega)] at hv
      obtain ⟨rfl, hsv⟩ := hv
      refine ⟨d, 0, rfl, ?_⟩
      have hlt : bval y < 256 ^ 8 := bval_lt 8 y (by omega)
      have hd0 : d 0 = (bval y : Int) := by
        have := hd 0 (by omega); have := hd 1 (by omega); have := hd 2 (by omega); have := hd 3 (by omega)
        rw [sv4] at hsv
        have : (256 : Nat) ^ 8 = 18446744073709551616 := rfl
        omega
      refine al_cells fun b7 w4 hb7 f4 _ o7 => ?_
      refine wr_own (vs := cellsA .u64 d 0 4) o7 (by simp [cellsA_len]) (cellsA_scal _ _ _ _) fun w5 f5 o7 _ => ?_
      have o7 : Own w5 b7 (cellsA .u64 d 0 4) := by simpa [cellsA_len, List.drop_eq_nil_of_le] using o7
      have hb7' : w3.heap.size = b7 := by omega
      have f35 : Fr F0 w3 w5 := f4.trans f5 fun c hc e => by omega
      have f25 : Fr F0 w2 w5 := f3.trans0 f35
      have f15 : Fr (· = b) w1 w5 := f2.trans0 f25
      have f05 : Fr (· = b) w w5 := f1.two f15
      have q5 := q2.fr0 f25
      have hneb : b ≠ b7 := by
        obtain ⟨_, s', o', _⟩ := q2
        have := o'.lt; have := f3.size; omega
      obtain ⟨q51, s5, o5, bs5, so5⟩ := q5
      have q5 : RdIs n w5 b r2 := ⟨q51, s5, o5, bs5, so5⟩
      refine o5.rdi (o := 1) rfl (br_ne (fun h => ?_) fun h => ?_)
      · rw [if_pos (show r2.e ≠ 0 from h)] at hQ
        refine small_end q5 o7 ?_
        have := hQ w5 f05 q5
        rw [if_pos (show r2.e ≠ 0 from h)] at this ⊢
        exact this
      · rw [if_neg (show ¬ r2.e ≠ 0 by omega)] at hQ
        refine ⟨by omega, rd0 f15 ?_⟩
        refine br_gt (fun h => by omega) fun _ => ⟨by omega, rd0 f15 ?_⟩
        have tailOk : (∀ w' r', Fr (· = b) w w' → RdIs n w' b r' → r' = (if bval y > lim then r2.wrong 2 else r2) → Q (.int .u64 (if r'.e ≠ 0 then 0 else (bval y : Int))) w') →
            ((0 : Int) ≤ 0 ∧ 0 < ((4 : Nat) : Int)) ∧ rd (.int .u64) w5 ⟨b7, 0, none⟩ 0 fun x53 => br (decide ((x53 : Int) > (lim : Int)))
              (callP Tryz.prog 62 #[.pointer (some ⟨b, 0, none⟩), .int .i64 2] w5 fun v w6 => v = .tuple #[] ∧ rd (.int .i64) w6 ⟨b, 1, none⟩ 0 fun x63 => br ((x63 : Int) != 0) (Q (.int .u64 0) w6) (((0 : Int) ≤ 0 ∧ 0 < ((4 : Nat) : Int)) ∧ rd (.int .u64) w6 ⟨b7, 0, none⟩ 0 fun x66 => Q (.int .u64 x66) w6))
              (rd (.int .i64) w5 ⟨b, 1, none⟩ 0 fun x63 => br ((x63 : Int) != 0) (Q (.int .u64 0) w5) (((0 : Int) ≤ 0 ∧ 0 < ((4 : Nat) : Int)) ∧ rd (.int .u64) w5 ⟨b7, 0, none⟩ 0 fun x66 => Q (.int .u64 x66) w5)) := by
          intro hQ
          refine ⟨by omega, o7.rdi (o := 0) (cellsA_at (by decide)) (br_gt (fun hgt => ?_) fun hgt => ?_)⟩
          · refine callP_of (wrong_spec (e := 2) q5) ?_
            rintro v w6 ⟨rfl, f6, q6⟩
            refine ⟨rfl, small_end q6 (o7.fr f6 fun e => hneb e.symm) ?_⟩
            rw [hd0] at hgt ⊢
            exact hQ _ _ (f05.two f6) q6 (by rw [if_pos (show bval y > lim by omega)])
          · refine small_end q5 o7 ?_
            rw [hd0] at hgt ⊢
            exact hQ _ _ f05 q5 (by rw [if_neg (show ¬ bval y > lim by omega)])
        refine br_gt (fun hc0 => ?_) fun hc0 => ?_
        · have hyl : y.length = c.toNat := hok (by omega)
          have hs2l := hs2.len
          refine ⟨by omega, ?_⟩
          refine By.rd (hs2.fr0 f25) (by omega) (by omega) fun z hz => ?_
          have hz' : y.head? = some z := by rw [List.head?_eq_getElem?]; exact hz
          refine br_eq (fun hz0 => ?_) fun hz0 => ?_
          · have : z = 0 := UInt8.toNat_inj.mp (by have : (z.toNat : Int) = 0 := hz0; simpa using this)
            subst this
            rw [if_pos (Or.inr hz')] at hQ
            refine callP_of (wrong_spec (e := 31) q5) ?_
            rintro v w6 ⟨rfl, f6, q6⟩
            refine ⟨rfl, small_end q6 (o7.fr f6 fun e => hneb e.symm) ?_⟩
            have := hQ w6 (f05.two f6) q6
            rw [if_pos (r2.wrong_ne (by decide))] at this ⊢
            exact this
          · have hno : ¬ (c.toNat > 8 ∨ y.head? = some 0) := by
              rintro (h | h)
              · omega
              · rw [hz'] at h
                simp at h
                subst h
                exact hz0 rfl
            rw [if_neg hno] at hQ
            refine tailOk fun w' r' a1 a2 a3 => ?_
            rw [← a3] at hQ
            have := hQ w' a1 a2
            by_cases he : r'.e ≠ 0
            · rw [if_pos he] at this ⊢; exact this
            · rw [if_neg he] at this ⊢; exact this
        · have hno : ¬ (c.toNat > 8 ∨ y.head? = some 0) := by
            rintro (h | h)
            · omega
            · have : y = [] := List.length_eq_zero_iff.mp (by omega)
              subst this
              simp at h
          rw [if_neg hno] at hQ
          refine tailOk fun w' r' a1 a2 a3 => ?_
          rw [← a3] at hQ
          have := hQ w' a1 a2
          by_cases he : r'.e ≠ 0
          · rw [if_pos he] at this ⊢; exact this
          · rw [if_neg he] at this ⊢; exact this
    · rw [if_neg (show ¬ c.toNat ≤ 8 by omega)] at hQ
      simp only at hQ
      refine callP_of (limb_Of_spec (s := ⟨none, 0, 0⟩) By.nil) ?_
      rintro v w3 ⟨d, hd, f3, hv⟩
      rw [if_pos (by simp)] at hv
      obtain ⟨rfl, hsv⟩ := hv
      refine ⟨d, 0, rfl, ?_⟩
      refine al_cells fun b7 w4 hb7 f4 _ o7 => ?_
      refine wr_own (vs := cellsA .u64 d 0 4) o7 (by simp [cellsA_len]) (cellsA_scal _ _ _ _) fun w5 f5 o7 _ => ?_
      have o7 : Own w5 b7 (cellsA .u64 d 0 4) := by simpa [cellsA_len, List.drop_eq_nil_of_le] using o7
      have f35 : Fr F0 w3 w5 := f4.trans f5 fun c hc e => by omega
      have f15 : Fr F0 w1 w5 := f3.trans0 f35
      have f05 : Fr (· = b) w w5 := f1.trans0 f15
      have q5 := q1.fr0 f15
      have hneb : b ≠ b7 := by
        obtain ⟨_, s', o', _⟩ := q1
        have := o'.lt; have := f3.size; omega
      have hd0 : d 0 = ((bval ([] : List UInt8) : Nat) : Int) := by
        have := hd 0 (by omega); have := hd 1 (by omega); have := hd 2 (by omega); have := hd 3 (by omega)
        rw [sv4] at hsv
        have : bval ([] : List UInt8) = 0 := rfl
        omega
      obtain ⟨q51, s5, o5, bs5, so5⟩ := q5
      have q5 : RdIs n w5 b r1 := ⟨q51, s5, o5, bs5, so5⟩
      refine o5.rdi (o := 1) rfl (br_ne (fun h => ?_) fun h => ?_)
      · rw [if_pos (show r1.e ≠ 0 from h)] at hQ
        refine small_end q5 o7 ?_
        have := hQ w5 f05 q5
        rw [if_pos (show r1.e ≠ 0 from h)] at this ⊢
        exact this
      · rw [if_neg (show ¬ r1.e ≠ 0 by omega), if_pos (show c.toNat > 8 ∨ ([] : List UInt8).head? = some 0 from .inl (by omega))] at hQ
        refine ⟨by omega, rd0 f15.one ?_⟩
        refine br_gt (fun _ => ?_) fun h => by omega
        refine callP_of (wrong_spec (e := 31) q5) ?_
        rintro v w6 ⟨rfl, f6, q6⟩
        refine ⟨rfl, small_end q6 (o7.fr f6 fun e => hneb e.symm) ?_⟩
        have := hQ w6 (f05.two f6) q6
        rw [if_pos (r1.wrong_ne (by decide))] at this ⊢
        exact this
end Go.Proofs.YtpcgkfgppfjnlaaGreatDoor.V
namespace Go.Proofs.YtpcgkfgppfjnlaaGreatDoor.V
open Go Go.RowKit
variable {S : Nat → Prop} {w0 w : World} {L : List (Nat × Bk)} {P : Program}

/-- append to nothing: a new slice -/
theorem app_new {b e sz bytes : Nat} {z : Value} {s : Sl} {vs : List Value} {K : Sl → World → Prop} (_hb : Own w b []) (_hb0 : w0.heap.size ≤ b) (f : Fr F0 w0 w)
    (e1 : sizeT P e = some sz) (e2 : (P.info? e).map (·.bytes) = some bytes) (e3 : zeroT P e = some z) (hz : z.cells.size = sz) (hsz : 0 < sz) (hby : 0 < bytes) (hby2 : bytes ≤ 64)
    (hs : SlC w s sz vs) (hsc : ∀ v ∈ vs, scal v = true) (hbig : s.len ≤ 1099511627776)
    (hK : ∀ s' w', Fr F0 w0 w' → SlC w' s' sz vs → s'.fresh w0 → K s' w') : appP P e w ⟨some ⟨b, 0, none⟩, 0, 0⟩ s.v K := by
  have m : Lo F0 w0 w ([] ++ (gl ⟨some ⟨b, 0, none⟩, 0, 0⟩ [] ++ [])) := ⟨f, by simp [gl], by simp [gl], by simp [gl]⟩
  refine m.app (Gs.block (n := 0) (by simp)) e1 e2 e3 hz hsz hby hs.src hs.1 hsc (by show 0 + s.len ≤ _; omega) hby2 fun s' cs' w' m' g' _ _ _ => ?_
  refine hK s' w' m'.fr (g'.slc m') fun a ha hac => ?_
  obtain ⟨p, n, c⟩ := s'
  simp only at ha
  subst ha
  have hac : c ≠ 0 := hac
  have := m'.new (a.block, .cs cs') (by simp [gl, hac])
  rcases this with x | x
  · exact x.elim
  · exact x

set_option maxRecDepth 8000 in
theorem Clone8_spec {s : Sl} {l : List UInt8} (h : By w s l) (hbig : l.length ≤ 1099511627776) :
    callP Tryz.prog 25 #[s.v] w fun v w' => ∃ t : Sl, v = t.v ∧ By w' t l ∧ t.fresh w ∧ Fr F0 w w' := by
  have hl := h.len
  refine slices_Clone_byte_byte_ok ?_
  unfold slices_Clone_byte_byte
  refine br_of (fun hn => ?_) fun hn => ?_
  · obtain ⟨p, n, c⟩ := s
    cases p with
    | none =>
      have h3 : c = 0 := h.2.2
      have : l = [] := List.length_eq_zero_iff.mp (by have := h.2.1; simp only at this hl; omega)
      subst this
      exact ⟨⟨none, 0, 0⟩, rfl, By.nil, fun a ha _ => by simp at ha, .refl _⟩
    | some a => simp at hn
  · refine al_cells (cs := []) fun b w1 hb f1 _ o1 => ?_
    exact app_new o1 (by omega) f1 (by kernel_rfl) (by kernel_rfl : _ = some 1) (z := .int .u8 0) (by kernel_rfl) rfl (by decide) (by decide) (by decide) (h.fr0 f1) (bv_scal _) (by omega)
      fun s' w' a1 a2 a3 => ⟨s', rfl, a2, a3, a1⟩
set_option maxRecDepth 8000 in
theorem Clone64_spec {s : Sl} {l : List Nat} (h : Wd w s l) (hbig : l.length ≤ 1099511627776) :
    callP Tryz.prog 21 #[s.v] w fun v w' => ∃ t : Sl, v = t.v ∧ Wd w' t l ∧ t.fresh w ∧ Fr F0 w w' := by
  have hl := h.len
  refine slices_Clone_uint64_uint64_ok ?_
  unfold slices_Clone_uint64_uint64
  refine br_of (fun hn => ?_) fun hn => ?_
  · obtain ⟨p, n, c⟩ := s
    cases p with
    | none =>
      have h3 : c = 0 := h.2.2
      have : l = [] := List.length_eq_zero_iff.mp (by have := h.2.1; simp only at this hl; omega)
      subst this
      exact ⟨⟨none, 0, 0⟩, rfl, ⟨rfl, Nat.le_refl _, rfl⟩, fun a ha _ => by simp at ha, .refl _⟩
    | some a => simp at hn
  · refine al_cells (cs := []) fun b w1 hb f1 _ o1 => ?_
    exact app_new o1 (by omega) f1 (by kernel_rfl) (by kernel_rfl : _ = some 8) (z := .int .u64 0) (by kernel_rfl) rfl (by decide) (by decide) (by decide) (h.fr0 f1) (fun v hv => by
      obtain ⟨n, _, rfl⟩ := List.mem_map.mp hv; rfl) (by omega)
      fun s' w' a1 a2 a3 => ⟨s', rfl, a2, a3, a1⟩

theorem ite0_lt {c : Prop} [Decidable c] {a n : Nat} (h : a < n) (h0 : 0 < n) : (if c then 0 else a) < n := by split <;> assumption
theorem Rdr.small_lt (r : Rdr) {lim : Nat} (_h : lim < 18446744073709551616) : (r.small lim).1 < 18446744073709551616 := by
  have hl := r.take_len 1
  unfold Rdr.small
  generalize r.take 1 = p at *
  obtain ⟨x, r1⟩ := p
  match x, hl with
  | [], _ => simp
  | [c], _ =>
    simp only
    have h2 : bval (if c.toNat ≤ 8 then r1.take c.toNat else ([], r1)).1 < 256 ^ 8 := by
      refine bval_lt 8 _ ?_
      split
      · exact Nat.le_trans (r1.take_len c.toNat) (by assumption)
      · simp
    generalize (if c.toNat ≤ 8 then r1.take c.toNat else ([], r1)) = q at *
    have : (256 : Nat) ^ 8 = 18446744073709551616 := rfl
    exact ite0_lt (by omega) (by decide)
theorem Rdr.small_len (r : Rdr) (lim : Nat) : (r.small lim).2.b.length ≤ r.b.length := by
  have hl := r.take_len2 1
  have hl1 := r.take_len 1
  unfold Rdr.small
  generalize r.take 1 = p at *
  obtain ⟨x, r1⟩ := p
  match x, hl1 with
  | [], _ => exact hl
  | [c], _ =>
    simp only at hl ⊢
    have h2 : (if c.toNat ≤ 8 then r1.take c.toNat else ([], r1)).2.b.length ≤ r1.b.length := by
      split
      · exact r1.take_len2 _
      · exact Nat.le_refl _
    generalize (if c.toNat ≤ 8 then r1.take c.toNat else ([], r1)) = q at *
    split
    · omega
    · split
      · exact Nat.le_trans (q.2.wrong_len 31) (by omega)
      · split
        · exact Nat.le_trans (q.2.wrong_len 2) (by omega)
        · omega

theorem count_spec {n b most : Nat} {r : Rdr} (h : RdIs n w b r) (hm : most < 9223372036854775808) (hb : r.b.length < 18446744073709551616) :
    callP Tryz.prog 63 #[.pointer (some ⟨b, 0, none⟩), .int .i64 (most : Int)] w fun v w' => v = .int .u64 ((r.small most).1 : Int) ∧ Fr (· = b) w w' ∧ RdIs n w' b (r.small most).2 := by
  refine codec_Reader_count_ok ?_
  unfold codec_Reader_count
  refine br_lt (fun h => by omega) fun _ => ?_
  have e1 : IntKind.wrap .u64 (most : Int) = ((most : Nat) : Int) := by rw [w_u64]; omega
  rw [e1]
  refine callP_of (Small_spec h (by omega) hb) ?_
  rintro v w1 ⟨rfl, f1, q1⟩
  exact ⟨_, rfl, rfl, f1, q1⟩

theorem Bytes_spec {n b most : Nat} {r : Rdr} (h : RdIs n w b r) (hm : most < 9223372036854775808) (hb : r.b.length < 1099511627776) :
    callP Tryz.prog 39 #[.pointer (some ⟨b, 0, none⟩), .int .i64 (most : Int)] w fun v w' => ∃ t : Sl, v = t.v ∧ Fr (· = b) w w' ∧ RdIs n w' b (r.bytes most).2 ∧ By w' t (r.bytes most).1 ∧ t.fresh w := by
  refine codec_Reader_Bytes_ok ?_
  unfold codec_Reader_Bytes
  refine callP_of (count_spec h hm (by omega)) ?_
  rintro v w1 ⟨rfl, f1, q1⟩
  refine ⟨_, rfl, ?_⟩
  have h1 := r.small_len most
  refine callP_of (take_spec q1 (r.small_lt (by omega)) (by omega)) ?_
  rintro v w2 ⟨s, rfl, f2, q2, hs, so⟩
  refine ⟨s, rfl, ?_⟩
  have hll : ((r.small most).2.take (r.small most).1).1.length ≤ 1099511627776 := by
    rw [Rdr.take_eq]
    split
    · simp
    · split
      · simp
      · simp only [List.length_take]; omega
  refine callP_of (Clone8_spec hs hll) ?_
  rintro v w3 ⟨t, rfl, ht, hf, f3⟩
  exact ⟨t, rfl, t, rfl, (f1.two f2).trans0 f3, q2.fr0 f3, ht, hf.mono (Nat.le_trans f1.size f2.size)⟩

theorem End_spec {n b : Nat} {r : Rdr} (h : RdIs n w b r) :
    callP Tryz.prog 40 #[.pointer (some ⟨b, 0, none⟩)] w fun v w' => v = .int .i64 r.fin ∧ w' = w := by
  obtain ⟨h1, s, h3, h4, h5⟩ := h
  have hl := h4.len
  refine codec_Reader_End_ok ?_
  unfold codec_Reader_End
  simp only [nn_some, add_lit, Nat.zero_add]
  have e1 : r.fin = if r.e = 0 then (if r.b ≠ [] then 30 else r.e) else r.e := by
    unfold Rdr.fin
    by_cases h : r.e = 0
    · simp [h]
    · simp [h]
  rw [e1]
  refine h3.rdi (o := 1) rfl (br_eq (fun h => ?_) fun h => ?_)
  · rw [if_pos h]
    refine h3.rds (o := 0) (s := s) rfl (br_gt (fun hg => ?_) fun hg => ?_)
    · rw [if_pos (fun e => by rw [e] at hl; simp at hl; omega)]
      exact ⟨rfl, trivial⟩
    · rw [if_neg (fun hne => hne (List.length_eq_zero_iff.mp (by omega)))]
      exact h3.rdi (o := 1) rfl ⟨rfl, trivial⟩
  · rw [if_neg h]
    exact h3.rdi (o := 1) rfl ⟨rfl, trivial⟩
end Go.Proofs.YtpcgkfgppfjnlaaGreatDoor.V
namespace Go.Proofs.YtpcgkfgppfjnlaaGreatDoor.V
open Go Go.RowKit
variable {S : Nat → Prop} {w0 w : World} {L : List (Nat × Bk)}

theorem By.str {s : Sl} {l : List UInt8} (h : By w s l) : strIs w ⟨s.p, s.len, s.cap⟩ ⟨l.toArray⟩ := by
  obtain ⟨p, n, c⟩ := s
  have hl := h.len
  simp only at hl
  cases p with
  | none =>
    have h3 : c = 0 := h.2.2
    have : l = [] := List.length_eq_zero_iff.mp (by have := h.2.1; simp only at this; omega)
    subst this
    rfl
  | some a => exact ⟨by simpa using hl.symm, h.at⟩
theorem ba_beq (a b : List UInt8) : ((⟨a.toArray⟩ : ByteArray) == ⟨b.toArray⟩) = decide (a = b) := by
  show (a.toArray == b.toArray) = _
  rw [Bool.eq_iff_iff]; simp
theorem Equal_spec {s t : Sl} {l k : List UInt8} (h : By w s l) (h2 : By w t k) :
    callP Tryz.prog 66 #[s.v, t.v] w fun v w' => v = .bool (decide (l = k)) ∧ w' = w := by
  refine bytes_Equal_ok ?_
  unfold bytes_Equal
  exact ⟨_, h.str, _, h2.str, by rw [ba_beq], rfl⟩

/-- a closure that tells whether bytes are some -/
def IsCl (w : World) (c : Cl) (k : List UInt8) : Prop := ∃ b s, c = ⟨65, #[], #[.pointer (some ⟨b, 0, none⟩)]⟩ ∧ Own w b [.slice s.p s.len s.cap] ∧ By w s k
theorem IsCl.fr0 {w' : World} {c : Cl} {k : List UInt8} (h : IsCl w c k) (hf : Fr F0 w w') : IsCl w' c k := by
  obtain ⟨b, s, h1, h2, h3⟩ := h
  exact ⟨b, s, h1, h2.fr hf id, h3.fr0 hf⟩
theorem is_spec {s : Sl} {k : List UInt8} (h : By w s k) :
    callP Tryz.prog 43 #[s.v] w fun v w' => ∃ c : Cl, v = c.v ∧ Fr F0 w w' ∧ IsCl w' c k := by
  refine pool_is_ok ?_
  unfold pool_is
  refine al_cells (cs := [.slice s.p s.len s.cap]) fun b w1 hb f1 _ o1 => ?_
  exact ⟨⟨_, _, _⟩, rfl, f1, b, s, rfl, o1, h.fr0 f1⟩
theorem IsCl.call {c : Cl} {k l : List UInt8} {s : Sl} (h : IsCl w c k) (hs : By w s l) :
    callD Tryz.prog c.f (c.first ++ #[.slice s.p s.len s.cap] ++ c.cap) w fun v w' => v = .bool (decide (k = l)) ∧ w' = w := by
  obtain ⟨b, t, rfl, h2, h3⟩ := h
  refine ⟨⟨_, Tryz.func65, rfl, by kernel_rfl⟩, ?_⟩
  refine pool_is_c1_ok (p0 := s) (c0 := ⟨b, 0, none⟩) ?_
  unfold pool_is_c1
  refine h2.rds (o := 0) (s := t) rfl ?_
  refine callP_of (Equal_spec h3 hs) ?_
  rintro v w' ⟨rfl, rfl⟩
  exact ⟨_, rfl, rfl, rfl⟩

theorem IndexFunc_spec {s : Sl} {M : List (Sl × List UInt8)} {c : Cl} {k : List UInt8} (hm : Bs w s M) (hc : IsCl w c k) (hn : M.length < 4611686018427387904) :
    callP Tryz.prog 64 #[s.v, c.v] w fun v w' => ∃ i : Int, v = .int .i64 i ∧ (0 ≤ i ↔ k ∈ M.map (·.2)) ∧ w' = w := by
  have hlen := hm.len
  refine slices_IndexFunc_byte_byte_ok ?_
  unfold slices_IndexFunc_byte_byte
  refine ⟨fun x w' => ∃ i : Nat, w' = w ∧ x = i ∧ i ≤ M.length ∧ k ∉ (M.map (·.2)).take i, fun x _ => (s.len - x).toNat, ⟨0, rfl, rfl, by omega, by simp⟩, ?_⟩
  rintro x w' K ⟨i, rfl, rfl, i2, i3⟩ hK
  refine br_lt (fun h => ?_) fun h => ?_
  · refine ⟨by omega, hm.rd (by omega) (by omega) fun x l hx hl => ?_⟩
    rw [Int.toNat_natCast] at hx
    have hget : (M.map (·.2))[i]? = some l := by rw [List.getElem?_map, hx]; rfl
    refine ⟨(hc.call hl).1, callP_of (hc.call hl).2 ?_⟩
    rintro v w'' ⟨rfl, rfl⟩
    refine ⟨_, rfl, br_dec (fun he => ?_) fun he => ?_⟩
    · refine ⟨_, rfl, ⟨fun _ => ?_, fun _ => by omega⟩, rfl⟩
      subst he
      exact List.mem_of_getElem? hget
    · simp (disch := omega) only [w_i64]
      refine hK _ _ ⟨i + 1, rfl, by omega, by omega, ?_⟩ (by dsimp only; omega)
      rw [List.take_add_one, hget]
      simp [i3, he]
  · obtain rfl : i = M.length := by omega
    refine ⟨_, rfl, ⟨fun h => by omega, fun h => ?_⟩, rfl⟩
    rw [List.take_of_length_le (by simp)] at i3
    exact absurd h i3
theorem ContainsFunc_spec {s : Sl} {M : List (Sl × List UInt8)} {c : Cl} {k : List UInt8} (hm : Bs w s M) (hc : IsCl w c k) (hn : M.length < 4611686018427387904) :
    callP Tryz.prog 42 #[s.v, c.v] w fun v w' => v = .bool (decide (k ∈ M.map (·.2))) ∧ w' = w := by
  refine slices_ContainsFunc_byte_byte_ok ?_
  unfold slices_ContainsFunc_byte_byte
  refine callP_of (IndexFunc_spec hm hc hn) ?_
  rintro v w' ⟨i, rfl, hi, rfl⟩
  refine ⟨_, rfl, ?_, rfl⟩
  congr 1
  exact decide_eq_decide.mpr hi

/-- are two of these one? -/
def dup (ls : List (List UInt8)) : Bool := (List.range ls.length).any fun i => decide (ls.getD i [] ∈ ls.take i)
theorem Bs.cut {s : Sl} {M : List (Sl × List UInt8)} (hm : Bs w s M) {i : Nat} (hi : i ≤ s.len) : Bs w ⟨cutAt s.p s.cap 0 1, i, s.cap⟩ (M.take i) := by
  refine ⟨?_, fun p hp => hm.2 p (List.mem_of_mem_take hp)⟩
  have := SlC.cut hm.1 (l := 0) (e := i) (by omega) hi
  simpa [List.map_take] using this
theorem twice_spec {s : Sl} {M : List (Sl × List UInt8)} (hm : Bs w s M) (hn : M.length < 4611686018427387904) :
    callP Tryz.prog 41 #[s.v] w fun v w' => v = .bool (dup (M.map (·.2))) ∧ Fr F0 w w' := by
  have hlen := hm.len
  refine pool_twice_ok ?_
  unfold pool_twice
  refine ⟨fun x w' => ∃ i : Nat, Fr F0 w w' ∧ x = i ∧ i ≤ M.length ∧ ∀ j, j < i → (M.map (·.2)).getD j [] ∉ (M.map (·.2)).take j, fun x _ => (s.len - x).toNat, ⟨0, .refl _, rfl, by omega, fun _ h => by omega⟩, ?_⟩
  rintro x w' K ⟨i, f1, rfl, i2, i3⟩ hK
  refine br_lt (fun h => ?_) fun h => ?_
  · refine ⟨by omega, (hm.fr0 f1).rd (by omega) (by omega) fun x l hx hl => ?_⟩
    rw [Int.toNat_natCast] at hx
    have hget : (M.map (·.2)).getD i [] = l := by rw [List.getD_eq_getElem?_getD, List.getElem?_map, hx]; rfl
    have f1 := f1.drw (w'.drawn + 1)
    have hl := (hm.2 (x, l) (List.mem_of_getElem? hx)).fr0 f1
    have hc := hm.1.2.1
    refine ⟨by omega, ?_⟩
    refine callP_of (is_spec hl) ?_
    rintro v w2 ⟨c, rfl, f2, hcl⟩
    refine ⟨c, rfl, ?_⟩
    rw [Int.toNat_natCast]
    refine callP_of (ContainsFunc_spec (s := ⟨cutAt s.p s.cap 0 1, i, s.cap⟩) (M := M.take i) ((hm.fr0 (f1.trans0 f2)).cut (by omega)) hcl (by rw [List.length_take]; omega)) ?_
    rintro v w3 ⟨rfl, rfl⟩
    refine ⟨_, rfl, br_dec (fun he => ?_) fun he => ?_⟩
    · refine ⟨?_, f1.trans0 f2⟩
      congr 1
      symm
      unfold dup
      rw [List.any_eq_true]
      refine ⟨i, by simp; omega, ?_⟩
      rw [hget, ← List.map_take]
      simpa using he
    · simp (disch := omega) only [w_i64]
      refine hK _ _ ⟨i + 1, f1.trans0 f2, by omega, by omega, fun j hj => ?_⟩ (by dsimp only; omega)
      rcases Nat.lt_or_ge j i with q | q
      · exact i3 j q
      · obtain rfl : j = i := by omega
        rw [hget, ← List.map_take]
        exact he
  · obtain rfl : i = M.length := by omega
    refine ⟨?_, f1⟩
    congr 1
    symm
    unfold dup
    rw [List.any_eq_false]
    intro j hj
    simp at hj
    simpa using i3 j hj

/-- what a block has -/
def parts (r : Rdr) : Nat → List (List UInt8) × Rdr
  | 0 => ([], r)
  | n + 1 => ((parts r n).1 ++ [((parts r n).2.bytes 1000).1], ((parts r n).2.bytes 1000).2)
def unpack (b : List UInt8) : Nat × List (List UInt8) × Int :=
  let r0 : Rdr := ⟨b, 0⟩
  let h := r0.small 18446744073709551615
  let c := h.2.small 10
  let p := parts c.2 c.1
  let e := if p.2.fin = 0 ∧ (dup p.1 = true ∨ [] ∈ p.1) then 31 else p.2.fin
  if e ≠ 0 then (0, [], e) else (h.1, p.1, 0)
end Go.Proofs.YtpcgkfgppfjnlaaGreatDoor.V
namespace Go.Proofs.YtpcgkfgppfjnlaaGreatDoor.V
open Go Go.RowKit
variable {S : Nat → Prop} {w0 w : World} {L : List (Nat × Bk)}

theorem Lo.alf (m : Lo S w0 w L) {cs : List Value} {t : TypeId} {K : Nat → World → Prop} (h : ∀ b w', w.heap.size = b → Lo S w0 w' ((b, .cs cs) :: L) → Fr F0 w w' → K b w') : V.al w (.cells cs.toArray t) K :=
  al_cells fun b w' hb hf _ ho => h b w' hb.symm (m.push (by omega) hf ho) hf
/-- what a call turned lies elsewhere -/
theorem Lo.keepS (m : Lo S w0 w L) {T : Nat → Prop} {w' : World} (h : Fr T w w') (h1 : ∀ p ∈ L, ¬ T p.1) (h2 : ∀ b, b < w0.heap.size → T b → S b) : Lo S w0 w' L :=
  ⟨m.fr.trans h h2, fun p hp => (m.has p hp).fr h (h1 p hp), m.new, m.nd⟩
theorem gl_at {s : Sl} {cs : List Value} {p : Nat × Bk} (h : p ∈ gl s cs) : s.in (· = p.1) := by
  obtain ⟨q, n, c⟩ := s
  cases q with
  | none => simp [gl] at h
  | some a =>
    by_cases hc : c = 0
    · simp [gl, hc] at h
    · simp [gl, hc] at h; subst h; exact ⟨hc, rfl⟩
theorem at_gl {s : Sl} {cs : List Value} {c : Nat} (h : s.in (· = c)) : (c, Bk.cs cs) ∈ gl s cs := by
  obtain ⟨q, n, k⟩ := s
  cases q with
  | none => exact h.elim
  | some a =>
    obtain ⟨hk, h⟩ := h
    have h : a.block = c := h
    have hk : k ≠ 0 := hk
    subst h
    simp [gl, hk]
theorem Sl.in_elim {s : Sl} {S : Nat → Prop} (h : s.in S) : ∃ c, S c ∧ s.in (· = c) := by
  obtain ⟨q, n, k⟩ := s
  cases q with
  | none => exact h.elim
  | some a => exact ⟨a.block, h.2, h.1, rfl⟩
theorem Sl.in_of {s : Sl} {S : Nat → Prop} {c : Nat} (h : s.in (· = c)) (hs : S c) : s.in S := by
  obtain ⟨q, n, k⟩ := s
  cases q with
  | none => exact h.elim
  | some a =>
    obtain ⟨hk, h⟩ := h
    have h : a.block = c := h
    subst h
    exact ⟨hk, hs⟩
theorem Sl.in_mono' {s t : Sl} {c : Nat} (h : s.in (· = c)) (h2 : t.in (· = c)) : s.in fun c => t.in (· = c) := by
  obtain ⟨q, n, k⟩ := s
  cases q with
  | none => exact h.elim
  | some a =>
    obtain ⟨hk, h⟩ := h
    have h : a.block = c := h
    subst h
    exact ⟨hk, h2⟩
theorem Sl.in_inj {s : Sl} {c d : Nat} (h : s.in (· = c)) (h2 : s.in (· = d)) : c = d := by
  obtain ⟨q, n, k⟩ := s
  cases q with
  | none => exact h.elim
  | some a =>
    have h : a.block = c := h.2
    have h2 : a.block = d := h2.2
    omega
theorem Sl.old.lt {s : Sl} {n c : Nat} (h : s.old n) (h2 : s.in (· = c)) : c < n := by
  obtain ⟨q, k, d⟩ := s
  cases q with
  | none => exact h2.elim
  | some a =>
    obtain ⟨hk, h2⟩ := h2
    have h2 : a.block = c := h2
    subst h2
    exact h a rfl hk
theorem Sl.fresh.ge {s : Sl} {c : Nat} (h : s.fresh w) (h2 : s.in (· = c)) : w.heap.size ≤ c := by
  obtain ⟨q, k, d⟩ := s
  cases q with
  | none => exact h2.elim
  | some a =>
    obtain ⟨hk, h2⟩ := h2
    have h2 : a.block = c := h2
    subst h2
    exact h a rfl hk

theorem Rdr.small_le (r : Rdr) (lim : Nat) : (r.small lim).1 ≤ lim := by
  have hl := r.take_len 1
  unfold Rdr.small
  generalize r.take 1 = p at *
  obtain ⟨x, r1⟩ := p
  match x, hl with
  | [], _ => simp
  | [c], _ =>
    simp only
    generalize (if c.toNat ≤ 8 then r1.take c.toNat else ([], r1)) = q at *
    by_cases h : (if q.2.e ≠ 0 then q.2 else if c.toNat > 8 ∨ q.1.head? = some 0 then q.2.wrong 31 else if bval q.1 > lim then q.2.wrong 2 else q.2).e ≠ 0
    · rw [if_pos h]; exact Nat.zero_le _
    · rw [if_neg h]
      by_cases h1 : q.2.e ≠ 0
      · rw [if_pos h1] at h; exact absurd h1 h
      · rw [if_neg h1] at h
        by_cases h2 : c.toNat > 8 ∨ q.1.head? = some 0
        · rw [if_pos h2] at h; exact absurd (q.2.wrong_ne (by decide)) h
        · rw [if_neg h2] at h
          by_cases h3 : bval q.1 > lim
          · rw [if_pos h3] at h; exact absurd (q.2.wrong_ne (by decide)) h
          · omega
theorem parts_len (r : Rdr) : ∀ n, (parts r n).2.b.length ≤ r.b.length
  | 0 => Nat.le_refl _
  | n + 1 => by
    have h1 := parts_len r n
    have h2 := (parts r n).2.small_len 1000
    have h3 := ((parts r n).2.small 1000).2.take_len2 ((parts r n).2.small 1000).1
    show ((parts r n).2.bytes 1000).2.b.length ≤ _
    unfold Rdr.bytes
    omega
theorem parts_n (r : Rdr) : ∀ n, (parts r n).1.length = n
  | 0 => rfl
  | n + 1 => by rw [parts, List.length_append, parts_n r n]; rfl

abbrev slv (p : Sl × List UInt8) : Value := .slice p.1.p p.1.len p.1.cap

set_option maxRecDepth 8000 in
set_option maxHeartbeats 1000000 in
theorem Unpack_spec {s : Sl} {l : List UInt8} (h : By w s l) (hbig : l.length < 1099511627776) :
    callP Tryz.prog 22 #[s.v] w fun v w' => ∃ (t : Sl) (M : List (Sl × List UInt8)), v = .tuple #[.int .u64 ((unpack l).1 : Int), t.v, .int .i64 (unpack l).2.2] ∧ Fr F0 w w' ∧ Bs w' t M ∧ M.map (·.2) = (unpack l).2.1 := by
  suffices H : ∀ Q : Value → World → Prop, (∀ w' (t : Sl) (M : List (Sl × List UInt8)), Fr F0 w w' → Bs w' t M → M.map (·.2) = (unpack l).2.1 → Q (.tuple #[.int .u64 ((unpack l).1 : Int), t.v, .int .i64 (unpack l).2.2]) w') →
      callP Tryz.prog 22 #[s.v] w Q from H _ fun w' t M a1 a2 a3 => ⟨t, M, rfl, a1, a2, a3⟩
  intro Q hQ
  refine pool_Unpack_ok ?_
  unfold pool_Unpack
  refine callP_of (R := fun v w' => ∃ b, v = .pointer (some ⟨b, 0, none⟩) ∧ Fr F0 w w' ∧ RdIs w.heap.size w' b ⟨l, 0⟩) (codec_New_ok ?_) ?_
  · unfold codec_New
    refine al_cells (cs := [.slice s.p s.len s.cap, .int .i64 0]) fun b w1 hb f1 _ o1 => ?_
    exact ⟨b, rfl, f1, by omega, s, o1, h.fr0 f1, h.old⟩
  rintro v w1 ⟨b, rfl, f1, q1⟩
  have hb0 := q1.1
  refine ⟨_, rfl, ?_⟩
  have fr0 : ∀ {w'}, Fr (· = b) w w' → Fr F0 w w' := fun f => f.mono fun c hc e => by subst e; omega
  refine callP_of (Small_spec (lim := 18446744073709551615) q1 (by decide) (by show l.length < _; omega)) ?_
  rintro v w2 ⟨rfl, f2, q2⟩
  refine ⟨_, rfl, ?_⟩
  have hl2 := (Rdr.mk l 0).small_len 18446744073709551615
  refine callP_of (Small_spec (lim := 10) q2 (by decide) (by simp only at hl2; omega)) ?_
  rintro v w3 ⟨rfl, f3, q3⟩
  refine ⟨_, rfl, ?_⟩
  unfold unpack at hQ
  simp only at hQ
  generalize (Rdr.mk l 0).small 18446744073709551615 = H at *
  have hl3 := H.2.small_len 10
  have hn := H.2.small_le 10
  generalize H.2.small 10 = C at *
  obtain ⟨n, r⟩ := C
  simp only at hQ hl2 hl3 hn q3 ⊢
  have f03 : Fr F0 w w3 := fr0 ((f1.one.two f2).two f3)
  refine ⟨fun x3 x12 w' => ∃ (cs : List Value) (M : List (Sl × List UInt8)) (i : Nat), Lo F0 w w' ([] ++ (gl x3 cs ++ [])) ∧ RdIs w.heap.size w' b (parts r i).2 ∧ Gs x3 1 cs (M.map slv) ∧
      (∀ p ∈ M, By w' p.1 p.2 ∧ ¬ p.1.in (· = b) ∧ ¬ p.1.in fun c => x3.in (· = c)) ∧ ¬ x3.in (· = b) ∧ M.map (·.2) = (parts r i).1 ∧ x12 = i ∧ i ≤ n ∧ b < w'.heap.size,
    fun _ x12 _ => (n - x12).toNat, ⟨[], [], 0, ⟨f03, by simp [gl], by simp [gl], by simp [gl]⟩, q3, Gs.nil 1, by simp, id, rfl, rfl, by omega, by obtain ⟨_, s', o', _⟩ := q3; exact o'.lt⟩, ?_⟩
  rintro x3 x12 w4 K ⟨cs, M, i, m, q4, g4, hM, hx3, hMl, rfl, i2, hblt⟩ hK
  have hpl := parts_len r i
  have hMn : M.length = i := by have := congrArg List.length hMl; rw [parts_n] at this; simpa using this
  have hx3l : x3.len = i := by have := g4.len; simp at this; omega
  have hx3w : ∀ c, x3.in (· = c) → w.heap.size ≤ c := fun c hc => by
    have := m.new (c, .cs cs) (by simp [at_gl hc])
    rcases this with x | x
    · exact x.elim
    · exact x
  have hx3h : ∀ c, x3.in (· = c) → c < w4.heap.size := fun c hc => m.lt (p := (c, .cs cs)) (by simp [at_gl hc])
  refine br_lt (fun h => ?_) fun h => ?_
  · refine callP_of (Bytes_spec (most := 1000) q4 (by decide) (by omega)) ?_
    rintro v w5 ⟨t, rfl, f5, q5, ht, htf⟩
    refine ⟨t, rfl, ?_⟩
    have m5 : Lo F0 w w5 ([] ++ (gl x3 cs ++ [])) := m.keepS f5 (fun p hp e => hx3 (by
      have : p ∈ gl x3 cs := by simpa using hp
      have := gl_at this
      rw [e] at this; exact this)) fun c hc e => by subst e; omega
    refine m5.alf (cs := [.slice t.p t.len t.cap]) fun b17 w6 hb17 m6 f6 => ?_
    have m6 : Lo F0 w w6 ([(b17, .cs [.slice t.p t.len t.cap])] ++ (gl x3 cs ++ [])) := m6
    have hsl := m6.slc 0 rfl (n := 1) (c := 1) (sz := 1) (by simp) (by omega)
    refine m6.app g4 (us := [.slice t.p t.len t.cap]) (by kernel_rfl) (by kernel_rfl : _ = some 24) (z := .slice none 0 0) (by kernel_rfl) rfl (by decide) (by decide) hsl.src rfl (by simp [scal]) (by show x3.len + 1 ≤ _; omega) (by decide) fun s' cs' w7 m7 g7 hl7 f7 hat => ?_
    have m7' : Lo F0 w w7 ([] ++ (gl s' cs' ++ [])) := Lo.tail m7
    have e1 : IntKind.wrap .u64 ((i : Int) + 1) = ((i + 1 : Nat) : Int) := by rw [w_u64]; omega
    rw [e1]
    have f57 : Fr (fun c => x3.in (· = c)) w5 w7 := (f6.mono fun _ _ x => x.elim).trans f7 fun c _ e => e
    have f47 : Fr (fun c => c = b ∨ x3.in (· = c)) w4 w7 := (f5.mono fun _ _ e => .inl e).trans f57 fun c hc e => .inr e
    have htat : ∀ c, t.in (· = c) → w4.heap.size ≤ c := fun c hc => htf.ge hc
    have htlt : ∀ c, t.in (· = c) → c < w5.heap.size := fun c hc => ht.old.lt hc
    have f6s := f6.size
    have f5s := f5.size
    refine hK _ _ _ ⟨cs', M ++ [(t, ((parts r i).2.bytes 1000).1)], i + 1, m7', ?_, ?_, ?_, ?_, ?_, rfl, by omega, ?_⟩ (by dsimp only; omega)
    · exact (q5.fr0 f6).fr f7 hx3 hx3w
    · simpa using g7
    · intro p hp
      rcases List.mem_append.mp hp with hp | hp
      · obtain ⟨p1, p2, p3⟩ := hM p hp
        refine ⟨p1.fr f47 fun x => ?_, p2, fun x => ?_⟩
        · obtain ⟨c, hc, hpc⟩ := Sl.in_elim x
          rcases hc with rfl | hc
          · exact p2 hpc
          · exact p3 (Sl.in_mono' hpc hc)
        · obtain ⟨c, hc, hpc⟩ := Sl.in_elim x
          rcases hat c hc with h1 | h1
          · exact p3 (Sl.in_mono' hpc h1)
          · have := p1.old.lt hpc; omega
      · obtain rfl : p = (t, ((parts r i).2.bytes 1000).1) := by simpa using hp
        refine ⟨ht.fr f57 fun x => ?_, fun x => by have := htat _ x; omega, fun x => ?_⟩
        · obtain ⟨c, hc, hpc⟩ := Sl.in_elim x
          have := htat _ hpc; have := hx3h _ hc; omega
        · obtain ⟨c, hc, hpc⟩ := Sl.in_elim x
          have h2 := htat _ hpc
          rcases hat c hc with h1 | h1
          · have := hx3h _ h1; omega
          · have := htlt _ hpc; omega
    · intro x
      rcases hat b x with h1 | h1
      · exact hx3 h1
      · omega
    · simp [parts, hMl]
    · have := f47.size; omega
  · obtain rfl : i = n := by omega
    have hbs : Bs w4 x3 M := ⟨g4.slc m, fun p hp => (hM p hp).1⟩
    refine callP_of (End_spec q4) ?_
    rintro v w5 ⟨rfl, rfl⟩
    refine ⟨_, rfl, ?_⟩
    rw [hMl.symm] at hQ
    generalize (parts r i).2.fin = e at *
    refine br_eq (fun he => ?_) fun he => ?_
    · subst he
      refine callP_of (twice_spec (s := x3) hbs (by omega)) ?_
      rintro v w6 ⟨rfl, f6⟩
      refine ⟨_, rfl, ?_⟩
      refine br_of (fun hd => ?_) fun hd => ?_
      · have e1 : (if (0 : Int) = 0 ∧ (dup (M.map (·.2)) = true ∨ [] ∈ M.map (·.2)) then (31 : Int) else 0) = 31 := if_pos ⟨rfl, .inl hd⟩
        rw [e1, if_pos (by decide)] at hQ
        refine br_ne (fun _ => ?_) fun h => absurd h (by decide)
        exact hQ w6 ⟨none, 0, 0⟩ [] (m.fr.trans0 f6) ⟨⟨rfl, Nat.le_refl _, rfl⟩, by simp⟩ rfl
      · refine callP_of (is_spec (s := ⟨none, 0, 0⟩) By.nil) ?_
        rintro v w7 ⟨c, rfl, f7, hc⟩
        refine ⟨c, rfl, ?_⟩
        have hbs7 := hbs.fr0 (f6.trans0 f7)
        refine callP_of (ContainsFunc_spec (s := x3) hbs7 hc (by omega)) ?_
        rintro v w8 ⟨rfl, rfl⟩
        refine ⟨_, rfl, br_dec (fun hin => ?_) fun hin => ?_⟩
        · have e1 : (if (0 : Int) = 0 ∧ (dup (M.map (·.2)) = true ∨ [] ∈ M.map (·.2)) then (31 : Int) else 0) = 31 := if_pos ⟨rfl, .inr hin⟩
          rw [e1, if_pos (by decide)] at hQ
          refine br_ne (fun _ => ?_) fun h => absurd h (by decide)
          exact hQ w8 ⟨none, 0, 0⟩ [] (m.fr.trans0 (f6.trans0 f7)) ⟨⟨rfl, Nat.le_refl _, rfl⟩, by simp⟩ rfl
        · have e1 : (if (0 : Int) = 0 ∧ (dup (M.map (·.2)) = true ∨ [] ∈ M.map (·.2)) then (31 : Int) else 0) = 0 := if_neg (by
            rintro ⟨_, h | h⟩
            · rw [hd] at h; cases h
            · exact hin h)
          rw [e1, if_neg (by decide)] at hQ
          refine br_ne (fun h => absurd rfl h) fun _ => ?_
          exact hQ w8 x3 M (m.fr.trans0 (f6.trans0 f7)) hbs7 rfl
    · have e1 : (if e = 0 ∧ (dup (M.map (·.2)) = true ∨ [] ∈ M.map (·.2)) then (31 : Int) else e) = e := if_neg fun x => he x.1
      rw [e1, if_pos he] at hQ
      refine br_ne (fun _ => ?_) fun h => absurd h he
      exact hQ w5 ⟨none, 0, 0⟩ [] m.fr ⟨⟨rfl, Nat.le_refl _, rfl⟩, by simp⟩ rfl
end Go.Proofs.YtpcgkfgppfjnlaaGreatDoor.V
namespace Go.Proofs.YtpcgkfgppfjnlaaGreatDoor.V
open Go Go.RowKit
variable {P : Program} {κ ν : Type} [DecidableEq κ] {ek : κ → Value} {ev : ν → Value} {S : Nat → Prop} {w : World}

structure MapV (ek : κ → Value) (ev : ν → Value) (es : Array MapEntry) (clock : Nat) (l : List (κ × ν)) : Prop where
  born : ∀ e ∈ es.toList, e.born < clock
  nd : (es.toList.map (·.born)).Nodup
  kv : es.toList.map (fun e => (e.key, e.val)) = l.map fun p => (ek p.1, ev p.2)
  keys : (l.map (·.1)).Nodup
/-- a block holds a map -/
def MapIs (ek : κ → Value) (ev : ν → Value) (w : World) (m : Nat) (l : List (κ × ν)) : Prop := ∃ es clock, w.heap[m]? = some (.map es clock) ∧ MapV ek ev es clock l
omit [DecidableEq κ] in
theorem MapIs.lt {m : Nat} {l : List (κ × ν)} (h : MapIs ek ev w m l) : m < w.heap.size := by
  obtain ⟨es, clock, h, _⟩ := h
  exact Nat.lt_of_not_le fun h1 => by rw [Array.getElem?_eq_none h1] at h; simp at h
omit [DecidableEq κ] in
theorem MapIs.fr {w' : World} {m : Nat} {l : List (κ × ν)} (h : MapIs ek ev w m l) (hf : Fr S w w') (hs : ¬ S m) : MapIs ek ev w' m l := by
  have hl := h.lt
  obtain ⟨es, clock, h, h2⟩ := h
  exact ⟨es, clock, by rw [hf.keep m hl hs]; exact h, h2⟩
omit [DecidableEq κ] in
theorem MapIs.fr0 {w' : World} {m : Nat} {l : List (κ × ν)} (h : MapIs ek ev w m l) (hf : Fr F0 w w') : MapIs ek ev w' m l := h.fr hf id
omit [DecidableEq κ] in
/-- a new map -/
theorem al_map {K : Nat → World → Prop} (h : ∀ b w', b = w.heap.size → Fr F0 w w' → w'.heap.size = b + 1 → MapIs ek ev w' b [] → K b w') : al w (.map #[] 0) K :=
  al_obj fun b w' hb hf hs ho => h b w' hb hf hs ⟨_, _, ho, by simp, by simp, by simp, by simp⟩

def mlook (l : List (κ × ν)) (k : κ) : Option ν := (l.find? fun p => decide (k = p.1)).map (·.2)
def mput (l : List (κ × ν)) (k : κ) (v : ν) : List (κ × ν) := if k ∈ l.map (·.1) then l.map fun p => if p.1 = k then (k, v) else p else l ++ [(k, v)]
def mdel (l : List (κ × ν)) (k : κ) : List (κ × ν) := l.filter fun p => decide (p.1 ≠ k)

omit [DecidableEq κ] in
theorem MapV.len {es : Array MapEntry} {clock : Nat} {l : List (κ × ν)} (h : MapV ek ev es clock l) : es.toList.length = l.length := by
  have := congrArg List.length h.kv; simpa using this
omit [DecidableEq κ] in
theorem MapV.get {es : Array MapEntry} {clock : Nat} {l : List (κ × ν)} (h : MapV ek ev es clock l) {i : Nat} {e : MapEntry} (he : es.toList[i]? = some e) : ∃ p, l[i]? = some p ∧ e.key = ek p.1 ∧ e.val = ev p.2 := by
  have h1 := congrArg (·[i]?) h.kv
  simp only [List.getElem?_map, he] at h1
  rcases hl : l[i]? with _ | p
  · rw [hl] at h1; simp at h1
  · rw [hl] at h1
    simp at h1
    exact ⟨p, rfl, h1.1, h1.2⟩
omit [DecidableEq κ] in
theorem MapV.fit {es : Array MapEntry} {clock : Nat} {l : List (κ × ν)} (h : MapV ek ev es clock l) {kt : TypeId} (hf : ∀ k, keyFit P kt (ek k) = true) : ∀ e ∈ es.toList, keyFit P kt e.key = true := by
  intro e he
  obtain ⟨i, hi⟩ := List.getElem?_of_mem he
  obtain ⟨p, _, h2, _⟩ := h.get hi
  rw [h2]; exact hf _
/-- where a key is found -/
theorem fI_of (he : ∀ a b : κ, keyEq (ek a) (ek b) = decide (a = b)) (k : κ) : ∀ (es : List MapEntry) (l : List (κ × ν)) (n : Nat), es.map (fun e => (e.key, e.val)) = l.map (fun p => (ek p.1, ev p.2)) →
    match fI (ek k) es n with
    | some (i, e) => ∃ j v, i = n + j ∧ es[j]? = some e ∧ l[j]? = some (k, v) ∧ e.val = ev v ∧ mlook l k = some v ∧ (∀ q, q < j → ∀ p, l[q]? = some p → p.1 ≠ k)
    | none => k ∉ l.map (·.1) ∧ mlook l k = none
  | [], [], n, _ => by simp [fI, mlook]
  | [], _ :: _, _, h => by simp at h
  | _ :: _, [], _, h => by simp at h
  | e :: es, p :: l, n, h => by
    simp only [List.map_cons, List.cons.injEq, Prod.mk.injEq] at h
    obtain ⟨⟨h1, h2⟩, h3⟩ := h
    unfold fI
    rw [h1, he]
    by_cases hk : k = p.1
    · subst hk
      simp only [decide_true, cond_true]
      exact ⟨0, p.2, rfl, rfl, rfl, h2, by simp [mlook], fun q hq => by omega⟩
    · simp only [hk, decide_false, cond_false]
      have ih := fI_of he k es l (n + 1) h3
      split
      · rename_i i e' heq
        rw [heq] at ih
        obtain ⟨j, v, i1, i2, i3, i4, i5, i6⟩ := ih
        refine ⟨j + 1, v, by omega, i2, i3, i4, ?_, fun q hq p' hp' => ?_⟩
        · unfold mlook at i5 ⊢
          rw [List.find?_cons, decide_eq_false hk]; exact i5
        · cases q with
          | zero => simp at hp'; subst hp'; exact fun e => hk e.symm
          | succ q => exact i6 q (by omega) p' (by simpa using hp')
      · rename_i heq
        rw [heq] at ih
        refine ⟨?_, ?_⟩
        · simp only [List.map_cons, List.mem_cons, not_or]
          exact ⟨hk, ih.1⟩
        · have ih := ih.2
          unfold mlook at ih ⊢
          rw [List.find?_cons, decide_eq_false hk]; exact ih

/-- reading a map -/
theorem MapIs.get {kt et : TypeId} {m : Nat} {l : List (κ × ν)} {k : κ} (h : MapIs ek ev w m l) (hf : ∀ k, keyFit P kt (ek k) = true) (he : ∀ a b : κ, keyEq (ek a) (ek b) = decide (a = b))
    {z : Value} (hz : zeroT P et = some z) : mgetIs P kt et w (some m) (ek k) ((mlook l k).elim z ev) (mlook l k).isSome := by
  obtain ⟨es, clock, h, hv⟩ := h
  refine ⟨es.toList, ⟨es, clock, h, rfl⟩, hf k, hv.fit hf, ?_⟩
  have := fI_of (ek := ek) (ev := ev) he k es.toList l 0 hv.kv
  split
  · rename_i i e heq
    rw [heq] at this
    obtain ⟨j, v, _, _, _, h4, h5, _⟩ := this
    rw [h5]
    exact ⟨h4.symm, rfl⟩
  · rename_i heq
    rw [heq] at this
    rw [this.2]
    exact ⟨hz, rfl⟩
omit [DecidableEq κ] in
theorem MapIs.mlen {m : Nat} {l : List (κ × ν)} (h : MapIs ek ev w m l) : mlenIs w (some m) l.length := by
  obtain ⟨es, clock, h, hv⟩ := h
  exact ⟨es.toList, ⟨es, clock, h, rfl⟩, hv.len⟩
theorem setO_get {w : World} {b : Nat} {o : Obj} {i : Nat} (h : b < w.heap.size) : (setO w b o).heap[i]? = if i = b then some o else w.heap[i]? := by
  unfold setO
  simp only [Array.getElem?_setIfInBounds]
  by_cases hi : b = i
  · subst hi; simp [h]
  · rw [if_neg hi, if_neg fun e => hi e.symm]
theorem setO_fr {w : World} {b : Nat} {o : Obj} (h : b < w.heap.size) : Fr (· = b) w (setO w b o) :=
  ⟨rfl, rfl, rfl, by unfold setO; simp, fun i _ hn => by rw [setO_get h, if_neg hn]⟩
/-- writing a map -/
theorem MapIs.set {kt : TypeId} {m : Nat} {l : List (κ × ν)} {k : κ} {v : ν} {K : World → Prop} (h : MapIs ek ev w m l) (hf : ∀ k, keyFit P kt (ek k) = true) (he : ∀ a b : κ, keyEq (ek a) (ek b) = decide (a = b))
    (hK : ∀ w', Fr (· = m) w w' → w'.heap.size = w.heap.size → MapIs ek ev w' m (mput l k v) → K w') : msetP P kt w (some m) (ek k) (ev v) K := by
  have hlt := h.lt
  obtain ⟨es, clock, h, hv⟩ := h
  refine ⟨m, es, clock, rfl, h, hf k, hv.fit hf, hK _ (setO_fr hlt) (by unfold setO; simp) ?_⟩
  have := fI_of (ek := ek) (ev := ev) he k es.toList l 0 hv.kv
  unfold updE
  split
  · rename_i i e heq
    rw [heq] at this
    obtain ⟨j, v', hij, h2, h3, h4, h5, h6⟩ := this
    rw [Nat.zero_add] at hij
    subst hij
    have hmem : k ∈ l.map (·.1) := List.mem_map.mpr ⟨_, List.mem_of_getElem? h3, rfl⟩
    have huniq : ∀ q p, l[q]? = some p → p.1 = k → q = i := fun q p hq hp => by
      have h1 : (l.map (·.1))[q]? = some k := by simp [hq, hp]
      have h2' : (l.map (·.1))[i]? = some k := by simp [h3]
      refine (List.getElem?_inj ?_ hv.keys).mp (h1.trans h2'.symm)
      exact Nat.lt_of_not_le fun hle => by rw [List.getElem?_eq_none hle] at h1; simp at h1
    have hes : (es.modify i fun e => { e with key := ek k, val := ev v }).toList = es.toList.modify i fun e => { e with key := ek k, val := ev v } := by simp
    have hborn : (es.modify i fun e => { e with key := ek k, val := ev v }).toList.map (·.born) = es.toList.map (·.born) := by
      rw [hes]
      apply List.ext_getElem?; intro q
      rw [List.getElem?_map, List.getElem?_modify, List.getElem?_map]
      split
      · cases es.toList[q]? <;> rfl
      · cases es.toList[q]? <;> rfl
    refine ⟨_, clock, by rw [setO_get hlt, if_pos rfl], ⟨fun e' he' => ?_, by rw [hborn]; exact hv.nd, ?_, ?_⟩⟩
    · have : e'.born ∈ (es.modify i fun e => { e with key := ek k, val := ev v }).toList.map (·.born) := List.mem_map.mpr ⟨e', he', rfl⟩
      rw [hborn] at this
      obtain ⟨e2, h21, h22⟩ := List.mem_map.mp this
      rw [← h22]; exact hv.born e2 h21
    · rw [hes, mput, if_pos hmem]
      apply List.ext_getElem?; intro q
      rw [List.getElem?_map, List.getElem?_modify, List.getElem?_map, List.getElem?_map]
      have hkv := congrArg (·[q]?) hv.kv
      simp only [List.getElem?_map] at hkv
      by_cases hq : i = q
      · subst hq
        rw [h2, h3]; simp
      · rcases hl : l[q]? with _ | p
        · rw [hl] at hkv
          simp at hkv
          rw [List.getElem?_eq_none (by simpa using hkv)]; rfl
        · rw [hl] at hkv
          have hpk : p.1 ≠ k := fun e => hq (huniq q p hl e).symm
          rcases hl2 : es.toList[q]? with _ | e2
          · rw [hl2] at hkv; simp at hkv
          · rw [hl2] at hkv
            simp [hq, hpk]
            simpa using hkv
    · rw [mput, if_pos hmem]
      have : (l.map fun p => if p.1 = k then (k, v) else p).map (·.1) = l.map (·.1) := by
        rw [List.map_map]
        apply List.map_congr_left
        intro p _
        by_cases hp : p.1 = k
        · simp [hp]
        · simp [hp]
      rw [this]; exact hv.keys
  · rename_i heq
    rw [heq] at this
    refine ⟨_, clock + 1, by rw [setO_get hlt, if_pos rfl], ⟨fun e' he' => ?_, ?_, ?_, ?_⟩⟩
    · simp only [Array.toList_push, List.mem_append, List.mem_singleton] at he'
      rcases he' with h1 | rfl
      · exact Nat.lt_succ_of_lt (hv.born e' h1)
      · exact Nat.lt_succ_self _
    · simp only [Array.toList_push, List.map_append, List.map_cons, List.map_nil]
      rw [List.nodup_append]
      refine ⟨hv.nd, by simp, ?_⟩
      intro a ha b hb
      simp at hb
      subst hb
      obtain ⟨e2, h21, h22⟩ := List.mem_map.mp ha
      have := hv.born e2 h21
      omega
    · rw [mput, if_neg this.1]
      simp only [Array.toList_push, List.map_append, List.map_cons, List.map_nil, hv.kv]
    · rw [mput, if_neg this.1]
      simp only [List.map_append, List.map_cons, List.map_nil]
      rw [List.nodup_append]
      refine ⟨hv.keys, by simp, ?_⟩
      intro a ha b hb
      simp at hb
      subst hb
      exact fun e => this.1 (e ▸ ha)
end Go.Proofs.YtpcgkfgppfjnlaaGreatDoor.V
namespace Go.Proofs.YtpcgkfgppfjnlaaGreatDoor.V
open Go Go.RowKit
variable {P : Program} {κ ν : Type} [DecidableEq κ] {ek : κ → Value} {ev : ν → Value} {S : Nat → Prop} {w : World}

/-- an iterator that has a part before it -/
structure ItV (ek : κ → Value) (ev : ν → Value) (es : Array MapEntry) (clock : Nat) (seen : Array Nat) (T : List (κ × ν)) : Prop where
  kv : (es.toList.filter fun e => !seen.contains e.born).map (fun e => (e.key, e.val)) = T.map fun p => (ek p.1, ev p.2)
  keys : (T.map (·.1)).Nodup
def It (ek : κ → Value) (ev : ν → Value) (w : World) (r m : Nat) (l T : List (κ × ν)) : Prop :=
  ∃ es clock seen, w.heap[r]? = some (.mapIter (some m) clock seen clock) ∧ w.heap[m]? = some (.map es clock) ∧ MapV ek ev es clock l ∧ ItV ek ev es clock seen T
omit [DecidableEq κ] in
theorem It.map {r m : Nat} {l T : List (κ × ν)} (h : It ek ev w r m l T) : MapIs ek ev w m l := by
  obtain ⟨es, clock, seen, _, h2, h3, _⟩ := h
  exact ⟨es, clock, h2, h3⟩
omit [DecidableEq κ] in
theorem heap_lt {w : World} {b : Nat} {o : Obj} (h : w.heap[b]? = some o) : b < w.heap.size := Nat.lt_of_not_le fun h1 => by rw [Array.getElem?_eq_none h1] at h; simp at h
omit [DecidableEq κ] in
theorem It.fr {w' : World} {r m : Nat} {l T : List (κ × ν)} (h : It ek ev w r m l T) (hf : Fr S w w') (h1 : ¬ S r) (h2 : ¬ S m) : It ek ev w' r m l T := by
  obtain ⟨es, clock, seen, a1, a2, a3, a4⟩ := h
  exact ⟨es, clock, seen, by rw [hf.keep r (heap_lt a1) h1]; exact a1, by rw [hf.keep m (heap_lt a2) h2]; exact a2, a3, a4⟩
omit [DecidableEq κ] in
theorem It.fr0 {w' : World} {r m : Nat} {l T : List (κ × ν)} (h : It ek ev w r m l T) (hf : Fr F0 w w') : It ek ev w' r m l T := h.fr hf id id
omit [DecidableEq κ] in
theorem It.start {m : Nat} {l : List (κ × ν)} {K : Nat → World → Prop} (h : MapIs ek ev w m l) (hK : ∀ r w', r = w.heap.size → Fr F0 w w' → It ek ev w' r m l l → K r w') :
    ∃ it, iterOf w (some m) it ∧ al w it K := by
  have hlt := h.lt
  obtain ⟨es, clock, h, hv⟩ := h
  refine ⟨_, ⟨es, clock, h, rfl⟩, al_obj fun r w' hr hf _ ho => hK r w' hr hf ⟨es, clock, #[], ho, by rw [hf.keep m hlt id]; exact h, hv, ?_, hv.keys⟩⟩
  have e : es.toList.filter (fun e => !(#[] : Array Nat).contains e.born) = es.toList := by
    rw [List.filter_eq_self]; intro x _; simp
  rw [e]; exact hv.kv
theorem filter_one {es : List MapEntry} {seen : Array Nat} {e : MapEntry} : (es.filter fun x => !(seen.push e.born).contains x.born) = (es.filter fun x => !seen.contains x.born).filter fun x => !(x.born == e.born) := by
  rw [List.filter_filter]
  congr 1
  funext x
  rw [Bool.eq_iff_iff]
  simp [and_comm]
omit [DecidableEq κ] in
theorem filter_kv [DecidableEq κ] : ∀ (es : List MapEntry) (T : List (κ × ν)) (i : Nat) (e : MapEntry) (p : κ × ν), es.map (fun e => (e.key, e.val)) = T.map (fun p => (ek p.1, ev p.2)) → (es.map (·.born)).Nodup → (T.map (·.1)).Nodup →
    es[i]? = some e → T[i]? = some p → (es.filter fun x => !(x.born == e.born)).map (fun e => (e.key, e.val)) = (mdel T p.1).map fun p => (ek p.1, ev p.2)
  | [], [], _, _, _, _, _, _, h, _ => by simp at h
  | [], _ :: _, _, _, _, h, _, _, _, _ => by simp at h
  | _ :: _, [], _, _, _, h, _, _, _, _ => by simp at h
  | x :: es, q :: T, i, e, p, h, h1, h2, h3, h4 => by
    simp only [List.map_cons, List.nodup_cons, List.cons.injEq] at h h1 h2
    cases i with
    | zero =>
      simp at h3 h4
      subst h3
      subst h4
      have a1 : es.filter (fun y => !(y.born == x.born)) = es := by
        rw [List.filter_eq_self]
        intro y hy
        have : y.born ≠ x.born := fun e => h1.1 (List.mem_map.mpr ⟨y, hy, e⟩)
        simp [this]
      have a2 : mdel T q.1 = T := by
        unfold mdel
        rw [List.filter_eq_self]
        intro y hy
        have : y.1 ≠ q.1 := fun e => h2.1 (List.mem_map.mpr ⟨y, hy, e⟩)
        simp [this]
      have a3 : mdel (q :: T) q.1 = mdel T q.1 := by simp [mdel]
      rw [a3, a2, List.filter_cons]
      simp [a1, h.2]
    | succ i =>
      have ih := filter_kv es T i e p h.2 h1.2 h2.2 (by simpa using h3) (by simpa using h4)
      have b1 : x.born ≠ e.born := fun c => h1.1 (List.mem_map.mpr ⟨e, List.mem_of_getElem? (by simpa using h3), c.symm⟩)
      have b2 : q.1 ≠ p.1 := fun c => h2.1 (List.mem_map.mpr ⟨p, List.mem_of_getElem? (by simpa using h4), c.symm⟩)
      have a3 : mdel (q :: T) p.1 = q :: mdel T p.1 := by simp [mdel, b2]
      rw [a3, List.filter_cons]
      simp [b1, ih, h.1]
/-- one step -/
theorem It.next {r m : Nat} {l T : List (κ × ν)} {Kd : World → Prop} {Ks : Value → Value → World → Prop} (h : It ek ev w r m l T) (hrm : r ≠ m)
    (hd : T = [] → ∀ n, Kd (drw w n)) (hs : ∀ p ∈ T, ∀ w', Fr (· = r) w w' → It ek ev w' r m l (mdel T p.1) → entryIs w' (some ⟨r, 0, none⟩) (ek p.1) (ev p.2) → Ks (ek p.1) (ev p.2) w') :
    mnextP w (some ⟨r, 0, none⟩) Kd Ks := by
  obtain ⟨es, clock, seen, h1, h2, hv, ht⟩ := h
  have hlt := heap_lt h1
  refine ⟨r, none, some m, clock, seen, clock, rfl, h1, es, clock, h2, ?_, fun hall n => hd ?_ n, fun e he hne n => ?_⟩
  · cases hes : es.toList with
    | nil =>
      have : es = #[] := by simpa using hes
      subst this; simp
    | cons x xs =>
      have hb := hv.born x (by rw [hes]; simp)
      have : es.all (fun e => decide (e.born ≥ clock)) = false := by
        rw [Bool.eq_false_iff]
        intro hall
        rw [Array.all_eq_true_iff_forall_mem] at hall
        have := hall x (by rw [← Array.mem_toList_iff, hes]; simp)
        simp at this; omega
      simp [this]
  · have : es.toList.filter (fun e => !seen.contains e.born) = [] := by
      rw [List.filter_eq_nil_iff]
      intro e he
      have hb := hv.born e he
      by_cases hc : seen.contains e.born = true
      · rw [hc]; decide
      · have := hall e (by simpa using he) (by simpa using hc)
        omega
    have hk := ht.kv
    rw [this] at hk
    simpa using hk.symm
  · have hmem : e ∈ es.toList.filter (fun e => !seen.contains e.born) := List.mem_filter.mpr ⟨by simpa using he, by simpa using hne⟩
    obtain ⟨i, hi⟩ := List.getElem?_of_mem hmem
    have hk := congrArg (·[i]?) ht.kv
    simp only [List.getElem?_map, hi] at hk
    rcases hT : T[i]? with _ | p
    · rw [hT] at hk; simp at hk
    · rw [hT] at hk
      simp at hk
      have hfr : Fr (· = r) w (setO (V.drw w n) r (.mapIter (some m) clock (seen.push e.born) clock)) := (setO_fr (w := V.drw w n) hlt).drw'
      have hg1 : (setO (V.drw w n) r (.mapIter (some m) clock (seen.push e.born) clock)).heap[r]? = some (.mapIter (some m) clock (seen.push e.born) clock) := by rw [setO_get (w := V.drw w n) hlt, if_pos rfl]
      have hg2 : (setO (V.drw w n) r (.mapIter (some m) clock (seen.push e.born) clock)).heap[m]? = some (.map es clock) := by rw [setO_get (w := V.drw w n) hlt, if_neg fun e => hrm e.symm]; exact h2
      rw [hk.1, hk.2]
      refine hs p (List.mem_of_getElem? hT) _ hfr ⟨es, clock, _, hg1, hg2, hv, ?_, ?_⟩ ?_
      · rw [filter_one]
        exact filter_kv _ T i e p ht.kv (List.Nodup.sublist (List.Sublist.map _ List.filter_sublist) hv.nd) ht.keys hi hT
      · exact List.Nodup.sublist (List.Sublist.map _ List.filter_sublist) ht.keys
      · refine ⟨r, none, m, clock, seen.push e.born, clock, es, e, rfl, hg1, by simp, hg2, ?_, hk.1.symm, hk.2.symm⟩
        rw [← Array.find?_toList]
        have hmem2 : e ∈ es.toList := by simpa using he
        have key : ∀ (L : List MapEntry), (L.map (·.born)).Nodup → e ∈ L → L.find? (fun x => x.born == e.born) = some e := by
          intro L
          induction L with
          | nil => intro _ h; simp at h
          | cons x xs ih =>
            intro hn hin
            simp only [List.map_cons, List.nodup_cons] at hn
            by_cases hx : x.born = e.born
            · rcases List.mem_cons.mp hin with rfl | hin
              · simp
              · exact absurd (List.mem_map.mpr ⟨e, hin, hx.symm⟩) hn.1
            · rw [List.find?_cons]
              have : (x.born == e.born) = false := by simpa using hx
              rw [this]
              rcases List.mem_cons.mp hin with rfl | hin
              · exact absurd rfl hx
              · exact ih hn.2 hin
        exact key _ hv.nd hmem2

/-! keys -/
/-- a digest -/
abbrev Dg := { l : List UInt8 // l.length = 32 }
def nameD (l : List UInt8) : Dg := ⟨nameOf l, nameOf_len l⟩
def ekD (d : Dg) : Value := arrV .u8 32 (dg d.1)
def ekI (k : Int) : Value := .int .i64 k
def ekU (k : Nat) : Value := .int .u64 (k : Int)
def evS (p : Sl × List UInt8) : Value := .slice p.1.p p.1.len p.1.cap
theorem dg_inj {a b : List UInt8} (ha : a.length = 32) (hb : b.length = 32) (h : ∀ i, i < 32 → dg a i = dg b i) : a = b := by
  apply List.ext_getElem (by omega)
  intro i h1 h2
  have := h i (by omega)
  unfold dg at this
  rw [List.getD_eq_getElem?_getD, List.getD_eq_getElem?_getD, List.getElem?_eq_getElem h1, List.getElem?_eq_getElem h2] at this
  have : (a[i].toNat : Int) = b[i].toNat := this
  exact UInt8.toNat_inj.mp (by omega)
theorem eqInts_cellsA {k j : IntKind} {d e : Nat → Int} : ∀ {n i : Nat}, eqInts (cellsA k d i n) (cellsA j e i n) = decide (∀ q, q < n → d (i + q) = e (i + q))
  | 0, i => by simp [cellsA, eqInts]
  | n + 1, i => by
    rw [cellsA, cellsA, eqInts, eqInts_cellsA (n := n) (i := i + 1)]
    rw [Bool.eq_iff_iff]
    simp only [Bool.and_eq_true, beq_iff_eq, decide_eq_true_eq]
    constructor
    · rintro ⟨h1, h2⟩ q hq
      cases q with
      | zero => exact h1
      | succ q => have := h2 q (by omega); rwa [show i + (q + 1) = i + 1 + q by omega]
    · intro h
      refine ⟨h 0 (by omega), fun q hq => ?_⟩
      have := h (q + 1) (by omega)
      rwa [show i + (q + 1) = i + 1 + q by omega] at this
theorem eqInts_dg (a b : Dg) : eqInts (cellsA .u8 (dg a.1) 0 32) (cellsA .u8 (dg b.1) 0 32) = decide (a = b) := by
  rw [eqInts_cellsA, Bool.eq_iff_iff]
  simp only [decide_eq_true_eq]
  constructor
  · intro h
    exact Subtype.ext (dg_inj a.2 b.2 fun i hi => by have := h i hi; simpa using this)
  · rintro rfl q _; rfl
theorem ekD_eq (a b : Dg) : keyEq (ekD a) (ekD b) = decide (a = b) := eqInts_dg a b
theorem ekI_eq (a b : Int) : keyEq (ekI a) (ekI b) = decide (a = b) := by
  show (a == b) = _
  rw [Bool.eq_iff_iff]; simp
theorem ekU_eq (a b : Nat) : keyEq (ekU a) (ekU b) = decide (a = b) := by
  show ((a : Int) == (b : Int)) = _
  rw [Bool.eq_iff_iff, beq_iff_eq, decide_eq_true_eq]
  omega
theorem allInt_cellsA (k : IntKind) (d : Nat → Int) : ∀ n i, allInt k (cellsA k d i n) = true
  | 0, _ => rfl
  | n + 1, i => by
    rw [cellsA, allInt, allInt_cellsA k d n (i + 1)]
    cases k <;> rfl
theorem ekD_fit (a : Dg) : keyFit Tryz.prog 50 (ekD a) = true := by
  have e1 : Tryz.prog.underlying 50 = some (.array 32 5) := by kernel_rfl
  have e2 : Tryz.prog.underlying 5 = some (.int .u8) := by kernel_rfl
  have e3 : sizeT Tryz.prog 5 = some 1 := by kernel_rfl
  have : keyFit Tryz.prog 50 (arrV .u8 32 (dg a.1)) = (Nat.beq (cellsA .u8 (dg a.1) 0 32).toArray.size 32 && allInt .u8 (cellsA .u8 (dg a.1) 0 32).toArray.toList) := by
    unfold keyFit arrV
    simp only [e1, e2, e3]
  show keyFit Tryz.prog 50 (arrV .u8 32 (dg a.1)) = true
  rw [this]
  have h1 : (cellsA .u8 (dg a.1) 0 32).toArray.toList = cellsA .u8 (dg a.1) 0 32 := by simp
  rw [h1, allInt_cellsA]
  rfl
theorem ekI_fit (a : Int) : keyFit Tryz.prog 3 (ekI a) = true := by
  have e1 : Tryz.prog.underlying 3 = some (.int .i64) := by kernel_rfl
  unfold keyFit ekI
  simp only [e1]; rfl
theorem ekU_fit (a : Nat) : keyFit Tryz.prog 24 (ekU a) = true := by
  have e1 : Tryz.prog.underlying 24 = some (.int .u64) := by kernel_rfl
  unfold keyFit ekU
  simp only [e1]; rfl
end Go.Proofs.YtpcgkfgppfjnlaaGreatDoor.V
namespace Go.Proofs.YtpcgkfgppfjnlaaGreatDoor.V
open Go Go.RowKit
variable {S : Nat → Prop} {w0 w : World}

/-- these blocks hold maps -/
def Maps (w : World) (S : Nat → Prop) : Prop := ∀ c, S c → ∃ es k, w.heap[c]? = some (.map es k)
theorem cell_frM {w' : World} {p : Addr} {v : Value} (hf : Fr S w w') (hm : Maps w S) (h : w.cell? p = some v) : w'.cell? p = some v := by
  refine cell_fr hf (fun hs => ?_) h
  obtain ⟨es, k, he⟩ := hm _ hs
  simp [World.cell?, he] at h
theorem atC.frM {w' : World} {p : Addr} (hf : Fr S w w') (hm : Maps w S) : ∀ {vs : List Value} {o : Nat}, atC w p o vs → atC w' p o vs
  | [], _, _ => trivial
  | _ :: _, _, h => ⟨cell_frM hf hm h.1, h.2.frM hf hm⟩
theorem SlC.frM {w' : World} {s : Sl} {sz : Nat} {vs : List Value} (h : SlC w s sz vs) (hf : Fr S w w') (hm : Maps w S) : SlC w' s sz vs := by
  obtain ⟨p, n, c⟩ := s
  obtain ⟨h1, h2, h3⟩ := h
  refine ⟨h1, h2, ?_⟩
  cases p with
  | none => exact h3
  | some a => exact fun hc => ⟨(h3 hc).1, Nat.lt_of_lt_of_le (h3 hc).2.1 hf.size, (h3 hc).2.2.frM hf hm⟩
theorem Own.frM {w' : World} {b : Nat} {cs : List Value} (h : Own w b cs) (hf : Fr S w w') (hm : Maps w S) : Own w' b cs := by
  refine h.fr hf fun hs => ?_
  obtain ⟨es, k, he⟩ := hm _ hs
  obtain ⟨t, lo, hi, h, _⟩ := h
  rw [he] at h; simp at h
theorem MapIs.maps {κ ν : Type} {ek : κ → Value} {ev : ν → Value} {m : Nat} {l : List (κ × ν)} (h : MapIs ek ev w m l) : ∃ es k, w.heap[m]? = some (.map es k) := by
  obtain ⟨es, k, h, _⟩ := h; exact ⟨es, k, h⟩

def evB (b : Bool) : Value := .bool b
/-- a tally's blocks -/
structure Tl where
  b : Nat
  mv : Nat
  mt : Nat
  s : Sl
structure TallyIs (w : World) (T : Tl) (st : List Nat) (vs : List (Int × Dg)) : Prop where
  own : Own w T.b [.slice T.s.p T.s.len T.s.cap, .int .u64 (st.sum : Int), .map (some T.mv), .map (some T.mt)]
  wst : Wd w T.s st
  mvs : MapIs ekI ekD w T.mv vs
  tw : ∃ tw, MapIs ekI evB w T.mt tw
  ne : T.mv ≠ T.mt
  who : ∀ p ∈ vs, 0 ≤ p.1 ∧ p.1 < (st.length : Int)
  w64 : W64 st
  sum : st.sum < 9223372036854775808
  len : st.length ≤ 40
def Tl.foot (T : Tl) (c : Nat) : Prop := c = T.mv ∨ c = T.mt
theorem TallyIs.maps {T : Tl} {st : List Nat} {vs : List (Int × Dg)} (h : TallyIs w T st vs) : Maps w T.foot := by
  rintro c (rfl | rfl)
  · exact h.mvs.maps
  · exact h.tw.choose_spec.maps
theorem TallyIs.frM {w' : World} {T : Tl} {st : List Nat} {vs : List (Int × Dg)} (h : TallyIs w T st vs) (hf : Fr S w w') (hm : Maps w S) (h1 : ¬ S T.mv) (h2 : ¬ S T.mt) : TallyIs w' T st vs :=
  ⟨h.own.frM hf hm, h.wst.frM hf hm, h.mvs.fr hf h1, let ⟨tw, ht⟩ := h.tw; ⟨tw, ht.fr hf h2⟩, h.ne, h.who, h.w64, h.sum, h.len⟩
theorem TallyIs.fr0 {w' : World} {T : Tl} {st : List Nat} {vs : List (Int × Dg)} (h : TallyIs w T st vs) (hf : Fr F0 w w') : TallyIs w' T st vs := h.frM hf (fun _ x => x.elim) id id

def voteRes (st : List Nat) (vs : List (Int × Dg)) (who : Int) (d : Dg) : Int :=
  if who < 0 ∨ who ≥ st.length then 1 else if st.getD who.toNat 0 = 0 then 51 else
  match mlook vs who with
  | some x => if x = d then 13 else 52
  | none => 0
def voteNew (st : List Nat) (vs : List (Int × Dg)) (who : Int) (d : Dg) : List (Int × Dg) := if voteRes st vs who d = 0 then mput vs who d else vs

theorem arr_of_dg {a : Nat → Int} {d : Dg} (h : arrV .u8 32 a = ekD d) : cellsA .u8 a 0 32 = cellsA .u8 (dg d.1) 0 32 := cellsA_ext (arrV_inj h)
theorem zeroT_dg : zeroT Tryz.prog 50 = some (arrV .u8 32 fun _ => 0) := by kernel_rfl
theorem Own.rdA {k : IntKind} {n b : Nat} {d : Nat → Int} {K : (Nat → Int) → Prop} (h : Own w b (cellsA k d 0 n)) (hK : K d) : rd (.arr k n) w ⟨b, 0, none⟩ 0 K :=
  rd_of (k := .arr k n) d (Own.at h (by intro j hj; simp [cellsK])) hK

set_option maxRecDepth 4000 in
set_option maxHeartbeats 1000000 in
theorem Vote_spec {T : Tl} {st : List Nat} {vs : List (Int × Dg)} {who : Int} {d : Dg} (h : TallyIs w T st vs) (hw : -9223372036854775808 ≤ who ∧ who < 9223372036854775808) :
    callP Tryz.prog 24 #[.pointer (some ⟨T.b, 0, none⟩), .int .i64 who, arrV .u8 32 (dg d.1)] w fun v w' => v = .int .i64 (voteRes st vs who d) ∧ Fr T.foot w w' ∧ TallyIs w' T st (voteNew st vs who d) := by
  suffices H : ∀ Q : Value → World → Prop, (∀ w', Fr T.foot w w' → TallyIs w' T st (voteNew st vs who d) → Q (.int .i64 (voteRes st vs who d)) w') →
      callP Tryz.prog 24 #[.pointer (some ⟨T.b, 0, none⟩), .int .i64 who, arrV .u8 32 (dg d.1)] w Q from H _ fun w' a1 a2 => ⟨rfl, a1, a2⟩
  intro Q hQ
  have hsl := h.wst.len
  have hf0 : ∀ {w'}, Fr F0 w w' → Fr T.foot w w' := fun f => f.mono fun _ _ x => x.elim
  refine votes_Tally_Vote_ok ?_
  unfold votes_Tally_Vote
  simp only [nn_some, add_lit, Nat.zero_add]
  refine al_cells fun b5 w1 hb5 f1 hs1 o5 => ?_
  have h1 := h.fr0 f1
  have hT := h.own.lt
  unfold voteNew at hQ
  refine br_lt (fun hlt => ?_) fun hlt => ?_
  · have e : voteRes st vs who d = 1 := by unfold voteRes; rw [if_pos (.inl hlt)]
    rw [e, if_neg (by decide)] at hQ
    exact hQ _ (hf0 f1) h1
  refine h1.own.rds (o := 0) (s := T.s) rfl (br_ge (fun hge => ?_) fun hge => ?_)
  · have e : voteRes st vs who d = 1 := by unfold voteRes; rw [if_pos (.inr (by omega))]
    rw [e, if_neg (by decide)] at hQ
    exact hQ _ (hf0 f1) h1
  have e0 : voteRes st vs who d = if st.getD who.toNat 0 = 0 then 51 else
      match mlook vs who with
      | some x => if x = d then 13 else 52
      | none => 0 := by unfold voteRes; rw [if_neg (by omega)]
  rw [e0] at hQ
  refine h1.own.rdm (o := 2) (x := some T.mv) rfl ?_
  obtain ⟨a, ha, hga⟩ : ∃ a : Nat → Int, ((mlook vs who).elim (arrV .u8 32 fun _ => 0) ekD) = arrV .u8 32 a ∧ ∀ x, mlook vs who = some x → cellsA .u8 a 0 32 = cellsA .u8 (dg x.1) 0 32 := by
    rcases hm : mlook vs who with _ | x
    · exact ⟨_, rfl, fun x h => by simp at h⟩
    · exact ⟨dg x.1, rfl, fun y h => by simp at h; subst h; rfl⟩
  have hget := h1.mvs.get (P := Tryz.prog) (kt := 3) (et := 50) (k := who) ekI_fit ekI_eq zeroT_dg
  rw [ha] at hget
  refine ⟨a, (mlook vs who).isSome, hget, ?_⟩
  refine al_cells fun b7 w2 hb7 f2 hs2 o7 => ?_
  refine wr_own (vs := cellsA .u8 a 0 32) o7 (by simp [cellsA_len]) (cellsA_scal _ _ _ _) fun w3 f3 o7 hs3 => ?_
  have o7 : Own w3 b7 (cellsA .u8 a 0 32) := by simpa [cellsA_len, List.drop_eq_nil_of_le] using o7
  have f13 : Fr F0 w1 w3 := f2.trans f3 fun c hc e => by omega
  have f03 : Fr F0 w w3 := f1.trans0 f13
  have h3 := h.fr0 f03
  have o5 := o5.fr f13 id
  refine h3.own.rds (o := 0) (s := T.s) rfl ⟨by omega, ?_⟩
  refine Wd.rd h3.wst (by omega) (by omega) fun n hn => ?_
  have hn' : st.getD who.toNat 0 = n := by rw [List.getD_eq_getElem?_getD, hn]; rfl
  rw [hn'] at hQ
  refine br_eq (fun hz => ?_) fun hz => ?_
  · have hz' : n = 0 := by omega
    rw [if_pos hz', if_neg (by decide)] at hQ
    exact hQ _ (hf0 f03) h3
  rw [if_neg (show ¬ n = 0 by omega)] at hQ
  have setV : mlook vs who = none → dr w3 fun w_3 => rd .map w_3 ⟨T.b, 2, none⟩ 0 fun x55 => rd (.arr .u8 32) w_3 ⟨b5, 0, none⟩ 0 fun x57 =>
      msetP Tryz.prog 3 w_3 x55 (.int .i64 who) (arrV .u8 32 x57) fun w_4 => Q (.int .i64 0) w_4 := by
    intro hm
    rw [hm] at hQ
    have fd : Fr F0 w3 (drw w3 (w3.drawn + 1)) := (Fr.refl w3).drw _
    have h4 := h3.fr0 fd
    refine h4.own.rdm (o := 2) (x := some T.mv) rfl ((o5.fr fd id).rdA ?_)
    refine h4.mvs.set (ek := ekI) (ev := ekD) (k := who) (v := d) ekI_fit ekI_eq fun w4 f4 _ hv4 => ?_
    refine hQ w4 (((hf0 f03).trans0 fd).trans f4 fun c _ e => .inl e) ?_
    have hm4 : Maps (drw w3 (w3.drawn + 1)) (· = T.mv) := fun c e => by subst e; exact h4.mvs.maps
    refine ⟨h4.own.frM f4 hm4, h4.wst.frM f4 hm4, hv4, let ⟨tw, ht⟩ := h4.tw; ⟨tw, ht.fr f4 fun e => h4.ne e.symm⟩, h4.ne, fun p hp => ?_, h4.w64, h4.sum, h4.len⟩
    rw [if_pos rfl] at hp
    unfold mput at hp
    have hno : who ∉ vs.map (·.1) := by
      intro hin
      obtain ⟨p, hp1, hp2⟩ := List.mem_map.mp hin
      unfold mlook at hm
      simp only [Option.map_eq_none_iff, List.find?_eq_none] at hm
      have := hm p hp1
      simp [hp2] at this
    rw [if_neg hno] at hp
    rcases List.mem_append.mp hp with hp | hp
    · exact h4.who p hp
    · simp at hp; subst hp
      exact ⟨by simp only; omega, by simp only; omega⟩
  have setT : ∀ x, mlook vs who = some x → x ≠ d → rd .map w3 ⟨T.b, 3, none⟩ 0 fun x50 => msetP Tryz.prog 3 w3 x50 (.int .i64 who) (.bool true) fun w_3 => Q (.int .i64 52) w_3 := by
    intro x hm hx
    rw [hm] at hQ
    simp only [if_neg hx] at hQ
    obtain ⟨tw, ht⟩ := h3.tw
    refine h3.own.rdm (o := 3) (x := some T.mt) rfl ?_
    refine ht.set (ek := ekI) (ev := evB) (k := who) (v := true) ekI_fit ekI_eq fun w4 f4 _ hv4 => ?_
    have hm4 : Maps w3 (· = T.mt) := fun c e => by subst e; exact ht.maps
    refine hQ w4 ((hf0 f03).trans f4 fun c _ e => .inr e) ?_
    rw [if_neg (by decide)]
    exact ⟨h3.own.frM f4 hm4, h3.wst.frM f4 hm4, h3.mvs.fr f4 h3.ne, ⟨_, hv4⟩, h3.ne, h3.who, h3.w64, h3.sum, h3.len⟩
  refine br_of (fun hok => ?_) fun hok => ?_
  · obtain ⟨x, hx⟩ := Option.isSome_iff_exists.mp hok
    refine o7.rdA (o5.rdA ?_)
    rw [hga x hx, eqInts_dg]
    refine br_dec (fun he => ?_) fun he => ?_
    · rw [hx] at hQ
      simp only [if_pos he] at hQ
      rw [if_neg (by decide)] at hQ
      exact hQ _ (hf0 f03) h3
    · exact br_true hok (setT x hx he)
  · have hn : mlook vs who = none := by simpa using hok
    exact br_false hok (setV hn)
end Go.Proofs.YtpcgkfgppfjnlaaGreatDoor.V
namespace Go.Proofs.YtpcgkfgppfjnlaaGreatDoor.V
open Go Go.RowKit
variable {S : Nat → Prop} {w0 w : World} {κ ν : Type} [DecidableEq κ] {ek : κ → Value} {ev : ν → Value}

/-- how many an iterator has before it -/
def remN (w : World) (r m : Nat) : Nat :=
  match w.heap[r]?, w.heap[m]? with
  | some (.mapIter _ _ seen _), some (.map es _) => (es.toList.filter fun e => !seen.contains e.born).length
  | _, _ => 0
omit [DecidableEq κ] in
theorem It.rem {r m : Nat} {l T : List (κ × ν)} (h : It ek ev w r m l T) : remN w r m = T.length := by
  obtain ⟨es, clock, seen, h1, h2, _, ht⟩ := h
  unfold remN
  rw [h1, h2]
  have := congrArg List.length ht.kv
  simpa using this
theorem mdel_lt {T : List (κ × ν)} {p : κ × ν} (h : p ∈ T) : (mdel T p.1).length < T.length := by
  unfold mdel
  exact List.length_filter_lt_length_iff_exists.mpr ⟨p, h, by simp⟩
/-- a sum over a map -/
def msum (f : κ × ν → Nat) (l : List (κ × ν)) : Nat := (l.map f).sum
theorem msum_del (f : κ × ν → Nat) : ∀ {T : List (κ × ν)} {p : κ × ν}, (T.map (·.1)).Nodup → p ∈ T → msum f T = f p + msum f (mdel T p.1)
  | q :: T, p, hn, hp => by
    simp only [List.map_cons, List.nodup_cons] at hn
    have hdq : ∀ k, mdel (q :: T) k = if q.1 = k then mdel T k else q :: mdel T k := fun k => by
      unfold mdel
      by_cases h : q.1 = k
      · simp [h]
      · simp [h]
    by_cases h : q.1 = p.1
    · have hpq : p = q := by
        rcases List.mem_cons.mp hp with h1 | h1
        · exact h1
        · exact absurd (List.mem_map.mpr ⟨p, h1, h.symm⟩) hn.1
      subst hpq
      have a2 : mdel T p.1 = T := by
        unfold mdel
        rw [List.filter_eq_self]
        intro y hy
        have : y.1 ≠ p.1 := fun e => hn.1 (List.mem_map.mpr ⟨y, hy, e⟩)
        simp [this]
      rw [hdq, if_pos rfl, a2]
      simp [msum]
    · have hp' : p ∈ T := by
        rcases List.mem_cons.mp hp with h1 | h1
        · exact absurd (congrArg (·.1) h1).symm h
        · exact h1
      have ih := msum_del f hn.2 hp'
      rw [hdq, if_neg h]
      simp only [msum, List.map_cons, List.sum_cons] at ih ⊢
      omega

theorem gather_spec {m : Nat} {l : List (Int × Dg)} {c : Cl} {f : Int × Dg → Nat} (h : MapIs ekI ekD w m l)
    (hc : ∀ p ∈ l, ∀ w', Fr F0 w w' → callD Tryz.prog c.f (c.first ++ #[.int .i64 p.1, arrV .u8 32 (dg p.2.1)] ++ c.cap) w' fun v w'' => v = .int .u64 (f p : Int) ∧ Fr F0 w' w'') :
    callP Tryz.prog 78 #[.map (some m), c.v] w fun v w' => v = .int .u64 (msum f l % 18446744073709551616 : Nat) ∧ Fr F0 w w' := by
  refine votes_gather_int_api_Digest_ok ?_
  unfold votes_gather_int_api_Digest
  have hml := h.lt
  refine It.start h fun r w1 hr f1 hit => ?_
  refine ⟨fun x5 w' => ∃ T, It ekI ekD w' r m l T ∧ (∀ p ∈ T, p ∈ l) ∧ Fr F0 w w' ∧ ∃ n : Nat, x5 = n ∧ n < 18446744073709551616 ∧ (n + msum f T) % 18446744073709551616 = msum f l % 18446744073709551616,
    fun _ w' => remN w' r m, ⟨l, hit, fun _ h => h, f1, 0, rfl, by decide, by rw [Nat.zero_add]⟩, ?_⟩
  rintro x5 w2 K ⟨T, hit, hTl, f2, n, rfl, hn, hsum⟩ hK
  have hrem := hit.rem
  refine hit.next (by omega) (fun hT n' => ?_) fun p hp w3 f3 hit3 hent => ?_
  · subst hT
    refine ⟨?_, f2.drw _⟩
    simp only [msum, List.map_nil, List.sum_nil, Nat.add_zero] at hsum
    rw [Nat.mod_eq_of_lt hn] at hsum
    rw [hsum]; rfl
  · have f23 : Fr F0 w w3 := f2.trans f3 fun c hc e => by omega
    refine ⟨p.1, dg p.2.1, hent, ?_⟩
    refine al_cells fun b7 w4 hb7 f4 hs4 o7 => ?_
    refine wr_own (vs := cellsA .u8 (dg p.2.1) 0 32) o7 (by simp [cellsA_len]) (cellsA_scal _ _ _ _) fun w5 f5 o7 hs5 => ?_
    have o7 : Own w5 b7 (cellsA .u8 (dg p.2.1) 0 32) := by simpa [cellsA_len, List.drop_eq_nil_of_le] using o7
    have f35 : Fr F0 w3 w5 := f4.trans f5 fun c hc e => by omega
    refine o7.rdA ?_
    have hcl := hc p (hTl p hp) w5 (f23.trans0 f35)
    refine ⟨hcl.1, callP_of hcl.2 ?_⟩
    rintro v w6 ⟨rfl, f6⟩
    refine ⟨_, rfl, ?_⟩
    have hit6 := hit3.fr0 (f35.trans0 f6)
    have hk : (T.map (·.1)).Nodup := by obtain ⟨_, _, _, _, _, _, ht⟩ := hit; exact ht.keys
    have hms := msum_del f hk hp
    have e1 : IntKind.wrap .u64 ((n : Int) + (f p : Int)) = (((n + f p) % 18446744073709551616 : Nat) : Int) := by rw [w_u64]; omega
    rw [e1]
    refine hK _ _ ⟨mdel T p.1, hit6, fun q hq => hTl q (List.mem_filter.mp hq).1, (f23.trans0 f35).trans0 f6, _, rfl, Nat.mod_lt _ (by decide), by omega⟩ ?_
    dsimp only
    rw [hrem, hit6.rem]
    exact mdel_lt hp

/-- the stake of those who voted for a value -/
def votedFor (st : List Nat) (vs : List (Int × Dg)) (d : Dg) : Nat := msum (fun p => if p.2 = d then st.getD p.1.toNat 0 else 0) vs

set_option maxRecDepth 4000 in
theorem For_spec {T : Tl} {st : List Nat} {vs : List (Int × Dg)} {d : Dg} (h : TallyIs w T st vs) :
    callP Tryz.prog 56 #[.pointer (some ⟨T.b, 0, none⟩), arrV .u8 32 (dg d.1)] w fun v w' => v = .int .u64 (votedFor st vs d % 18446744073709551616 : Nat) ∧ Fr F0 w w' := by
  refine votes_Tally_For_ok ?_
  unfold votes_Tally_For
  refine al_cells (cs := [.pointer (some ⟨T.b, 0, none⟩)]) fun b2 w1 hb2 f1 hs1 o2 => ?_
  refine al_cells fun b3 w2 hb3 f2 hs2 o3 => ?_
  have o2 := o2.fr f2 id
  have f02 := f1.trans0 f2
  have h2 := h.fr0 f02
  refine o2.rdp (o := 0) rfl ?_
  simp only [nn_some, add_lit, Nat.zero_add]
  refine h2.own.rdm (o := 2) (x := some T.mv) rfl ?_
  refine callP_of (gather_spec (c := ⟨79, #[], #[.pointer (some ⟨b3, 0, none⟩), .pointer (some ⟨b2, 0, none⟩)]⟩) (f := fun p => if p.2 = d then st.getD p.1.toNat 0 else 0) h2.mvs fun p hp w' f' => ?_) ?_
  · refine ⟨⟨_, Tryz.func79, rfl, by kernel_rfl⟩, ?_⟩
    refine votes_Tally_For_c1_ok (p0 := p.1) (p1 := dg p.2.1) (c0 := ⟨b3, 0, none⟩) (c1 := ⟨b2, 0, none⟩) ?_
    unfold votes_Tally_For_c1
    have o2 := o2.fr f' id
    have o3 := o3.fr f' id
    have h2 := h2.fr0 f'
    refine al_cells fun b5 w3 hb5 f3 hs3 o5 => o5.rdA ((o3.fr f3 id).rdA ?_)
    rw [eqInts_dg]
    have h3 := h2.fr0 f3
    have hwho := h3.who p hp
    refine br_not (br_dec (fun he => ?_) fun he => ?_)
    · refine (o2.fr f3 id).rdp (o := 0) rfl ?_
      simp only [nn_some]
      have hsl := h3.wst.len
      refine h3.own.rds (o := 0) (s := T.s) rfl ⟨by omega, ?_⟩
      refine Wd.rd h3.wst (by omega) (by omega) fun n hn => ?_
      refine ⟨?_, f3⟩
      rw [if_pos he, List.getD_eq_getElem?_getD, hn]; rfl
    · refine ⟨?_, f3⟩
      rw [if_neg he]; rfl
  · rintro v w3 ⟨rfl, f3⟩
    exact ⟨_, rfl, rfl, f02.trans0 f3⟩

set_option maxRecDepth 4000 in
theorem Third_spec {T : Tl} {st : List Nat} {vs : List (Int × Dg)} {d : Dg} (h : TallyIs w T st vs) :
    callP Tryz.prog 33 #[.pointer (some ⟨T.b, 0, none⟩), arrV .u8 32 (dg d.1)] w fun v w' => v = .bool (decide (st.sum < 3 * (votedFor st vs d % 18446744073709551616))) ∧ Fr F0 w w' := by
  refine votes_Tally_Third_ok ?_
  unfold votes_Tally_Third
  refine al_cells fun b3 w1 hb3 f1 hs1 o3 => ?_
  have fd : Fr F0 w1 (drw w1 (w1.drawn + 1)) := (Fr.refl w1).drw _
  have h1 := h.fr0 (f1.trans0 fd)
  refine (o3.fr fd id).rdA ?_
  simp only [nn_some, add_lit, Nat.zero_add]
  have hs := h.sum
  refine h1.own.rdi (o := 1) rfl ?_
  refine callP_of (For_spec h1) ?_
  rintro v w2 ⟨rfl, f2⟩
  refine ⟨_, rfl, atC_own (h1.fr0 f2).own rfl, ?_⟩
  have hlt := Nat.mod_lt (votedFor st vs d) (show 0 < 18446744073709551616 by decide)
  refine callP_of (More_spec (by omega) (by omega) (by omega) (by omega)) ?_
  rintro v w3 ⟨rfl, f3⟩
  refine ⟨_, rfl, ?_, ((f1.trans0 fd).trans0 f2).trans0 f3⟩
  congr 1
  rw [Bool.eq_iff_iff, decide_eq_true_eq, decide_eq_true_eq]
  omega
end Go.Proofs.YtpcgkfgppfjnlaaGreatDoor.V
namespace Go.Proofs.YtpcgkfgppfjnlaaGreatDoor.V
open Go Go.RowKit
variable {S : Nat → Prop} {w0 w : World}

def newErr (st : List Nat) : Int := if st.length < 1 ∨ st.length > 40 then 2 else if st.sum ≥ 9223372036854775808 then 10 else 0
structure Tl.fresh (T : Tl) (w : World) : Prop where
  b : w.heap.size ≤ T.b
  mv : w.heap.size ≤ T.mv
  mt : w.heap.size ≤ T.mt
  s : T.s.fresh w

set_option maxRecDepth 4000 in
set_option maxHeartbeats 1000000 in
theorem vNew_spec {s : Sl} {st : List Nat} (g : Gb w) (h : Wd w s st) (h64 : W64 st) (hn : st.length < 9223372036854775808) :
    callP Tryz.prog 20 #[s.v] w fun v w' => Fr F0 w w' ∧
      ((newErr st ≠ 0 ∧ v = .tuple #[.pointer none, .int .i64 (newErr st)]) ∨ (newErr st = 0 ∧ ∃ T : Tl, v = .tuple #[.pointer (some ⟨T.b, 0, none⟩), .int .i64 0] ∧ T.fresh w ∧ TallyIs w' T st [])) := by
  suffices H : ∀ Q : Value → World → Prop, (∀ w', Fr F0 w w' → newErr st ≠ 0 → Q (.tuple #[.pointer none, .int .i64 (newErr st)]) w') →
      (∀ w' (T : Tl), Fr F0 w w' → newErr st = 0 → T.fresh w → TallyIs w' T st [] → Q (.tuple #[.pointer (some ⟨T.b, 0, none⟩), .int .i64 0]) w') →
      callP Tryz.prog 20 #[s.v] w Q from H _ (fun w' a1 a2 => ⟨a1, .inl ⟨a2, rfl⟩⟩) fun w' T a1 a2 a3 a4 => ⟨a1, .inr ⟨a2, T, rfl, a3, a4⟩⟩
  intro Q hE hQ
  have hsl := h.len
  refine votes_New_ok ?_
  unfold votes_New
  refine callP_of (Total_spec h h64 hn) ?_
  rintro v w1 ⟨d, rfl, hd, hsum, f1⟩
  refine ⟨d, rfl, ?_⟩
  refine al_cells fun b4 w2 hb4 f2 hs2 o4 => ?_
  refine wr_own (vs := cellsA .u64 d 0 4) o4 (by simp [cellsA_len]) (cellsA_scal _ _ _ _) fun w3 f3 o4 hs3 => ?_
  have o4 : Own w3 b4 (cellsA .u64 d 0 4) := by simpa [cellsA_len, List.drop_eq_nil_of_le] using o4
  have f13 : Fr F0 w1 w3 := f2.trans f3 fun c hc e => by omega
  have f03 := f1.trans0 f13
  unfold newErr at hE hQ
  refine br_lt (fun hlt => ?_) fun hlt => ?_
  · have e : st.length < 1 ∨ st.length > 40 := by omega
    simp only [if_pos e] at hE
    exact hE w3 f03 (by decide)
  refine br_gt (fun hlt => ?_) fun hgt => ?_
  · have e : st.length < 1 ∨ st.length > 40 := by omega
    simp only [if_pos e] at hE
    exact hE w3 f03 (by decide)
  have e : ¬ (st.length < 1 ∨ st.length > 40) := by omega
  simp only [if_neg e] at hE hQ
  refine o4.rdA ?_
  refine rd_of (k := .arr .u64 4) (n1 9223372036854775808) (g.fr0 f03).lim ?_
  refine callP_of (limb_Cmp_spec hd (n1_u64 (by decide) (by decide))) ?_
  rintro v w4 ⟨rfl, f4⟩
  refine ⟨_, rfl, ?_⟩
  have f04 := f03.trans0 f4
  have hcmp : cmp4 d (n1 9223372036854775808) ≥ 0 ↔ st.sum ≥ 9223372036854775808 := by
    unfold cmp4
    rw [n1_sv, hsum]
    split
    · constructor <;> intro h <;> omega
    · split <;> constructor <;> intro h <;> omega
  refine br_ge (fun hge => ?_) fun hge => ?_
  · have e2 := hcmp.mp hge
    simp only [if_pos e2] at hE
    exact hE w4 f04 (by decide)
  have hs63 : ¬ st.sum ≥ 9223372036854775808 := fun h => hge (hcmp.mpr h)
  simp only [if_neg hs63] at hQ
  have fd : Fr F0 w4 (drw w4 (w4.drawn + 1)) := (Fr.refl w4).drw _
  have o4d := o4.fr (f4.trans0 fd) id
  have f0d := f04.trans0 fd
  have hd0 : d 0 = (st.sum : Int) := by
    have := hd 0 (by omega); have := hd 1 (by omega); have := hd 2 (by omega); have := hd 3 (by omega)
    rw [sv4] at hsum
    omega
  unfold dr
  generalize drw w4 (w4.drawn + 1) = w5 at *
  simp only [add_lit, Nat.zero_add]
  refine ⟨by omega, o4d.rdi (o := 0) (cellsA_at (by decide)) ?_⟩
  rw [hd0]
  have rec' : ∀ {w'}, Fr F0 w5 w' → atC w' ⟨b4, Int.toNat 0 * 1, none⟩ 0 [.int .u64 (st.sum : Int)] := fun f => atC_own (b := b4) (o := 0) (o4d.fr f id) (by rw [← hd0]; exact cellsA_at (by decide))
  have fin : ∀ {w'} (t : Sl) (mv mt : Nat), Fr F0 w5 w' → w5.heap.size ≤ mv → w5.heap.size ≤ mt → mv ≠ mt → Wd w' t st → t.fresh w5 → MapIs ekI ekD w' mv ([] : List (Int × Dg)) → MapIs ekI evB w' mt ([] : List (Int × Bool)) →
      al w' (.cells #[(.slice t.p t.len t.cap), (.int .u64 (st.sum : Int)), (.map (some mv)), (.map (some mt))] 92) fun b28 w_8 => Q (.tuple #[(.pointer (some ⟨b28, 0, none⟩)), (.int .i64 0)]) w_8 := by
    intro w' t mv mt f hmv hmt hne ht htf h1 h2
    refine al_cells (cs := [.slice t.p t.len t.cap, .int .u64 (st.sum : Int), .map (some mv), .map (some mt)]) fun b w6 hb f6 hs6 o6 => ?_
    have hsz := f0d.size
    have hsz2 := f.size
    exact hQ w6 ⟨b, mv, mt, t⟩ ((f0d.trans0 f).trans0 f6) trivial ⟨by show _ ≤ b; omega, by show _ ≤ mv; omega, by show _ ≤ mt; omega, htf.mono hsz⟩
      ⟨o6, ht.fr0 f6, h1.fr0 f6, ⟨[], h2.fr0 f6⟩, hne, by simp, h64, by omega, by omega⟩
  have h5 := h.fr0 f0d
  have hb40 : st.length ≤ 1099511627776 := by omega
  refine ⟨?_, ?_, ?_⟩
  · refine callP_of (Clone64_spec h5 hb40) ?_
    rintro v w6 ⟨t, rfl, ht, htf, f6⟩
    refine ⟨t, rfl, rec' f6, ?_, ?_⟩
    · refine al_map (ek := ekI) (ev := ekD) fun mv w7 hmv f7 hs7 m7 => ⟨rec' (f6.trans0 f7), ?_⟩
      refine al_map (ek := ekI) (ev := evB) fun mt w8 hmt f8 hs8 m8 => ⟨rec' ((f6.trans0 f7).trans0 f8), ?_⟩
      have := f6.size
      exact fin t mv mt ((f6.trans0 f7).trans0 f8) (by omega) (by omega) (by omega) (ht.fr0 (f7.trans0 f8)) htf (m7.fr0 f8) m8
    · refine al_map (ek := ekI) (ev := evB) fun mt w7 hmt f7 hs7 m7 => ⟨rec' (f6.trans0 f7), ?_⟩
      refine al_map (ek := ekI) (ev := ekD) fun mv w8 hmv f8 hs8 m8 => ⟨rec' ((f6.trans0 f7).trans0 f8), ?_⟩
      have := f6.size
      exact fin t mv mt ((f6.trans0 f7).trans0 f8) (by omega) (by omega) (by omega) (ht.fr0 (f7.trans0 f8)) htf m8 (m7.fr0 f8)
  · refine al_map (ek := ekI) (ev := ekD) fun mv w6 hmv f6 hs6 m6 => ⟨rec' f6, ?_, ?_⟩
    · refine callP_of (Clone64_spec (h5.fr0 f6) hb40) ?_
      rintro v w7 ⟨t, rfl, ht, htf, f7⟩
      refine ⟨t, rfl, rec' (f6.trans0 f7), ?_⟩
      refine al_map (ek := ekI) (ev := evB) fun mt w8 hmt f8 hs8 m8 => ⟨rec' ((f6.trans0 f7).trans0 f8), ?_⟩
      have := f7.size; have := f6.size
      exact fin t mv mt ((f6.trans0 f7).trans0 f8) (by omega) (by omega) (by omega) (ht.fr0 f8) (htf.mono (by omega)) (m6.fr0 (f7.trans0 f8)) m8
    · refine al_map (ek := ekI) (ev := evB) fun mt w7 hmt f7 hs7 m7 => ⟨rec' (f6.trans0 f7), ?_⟩
      refine callP_of (Clone64_spec (h5.fr0 (f6.trans0 f7)) hb40) ?_
      rintro v w8 ⟨t, rfl, ht, htf, f8⟩
      refine ⟨t, rfl, rec' ((f6.trans0 f7).trans0 f8), ?_⟩
      have := f7.size; have := f6.size
      exact fin t mv mt ((f6.trans0 f7).trans0 f8) (by omega) (by omega) (by omega) ht (htf.mono (by omega)) (m6.fr0 (f7.trans0 f8)) (m7.fr0 f8)
  · refine al_map (ek := ekI) (ev := evB) fun mt w6 hmt f6 hs6 m6 => ⟨rec' f6, ?_, ?_⟩
    · refine callP_of (Clone64_spec (h5.fr0 f6) hb40) ?_
      rintro v w7 ⟨t, rfl, ht, htf, f7⟩
      refine ⟨t, rfl, rec' (f6.trans0 f7), ?_⟩
      refine al_map (ek := ekI) (ev := ekD) fun mv w8 hmv f8 hs8 m8 => ⟨rec' ((f6.trans0 f7).trans0 f8), ?_⟩
      have := f7.size; have := f6.size
      exact fin t mv mt ((f6.trans0 f7).trans0 f8) (by omega) (by omega) (by omega) (ht.fr0 f8) (htf.mono (by omega)) m8 (m6.fr0 (f7.trans0 f8))
    · refine al_map (ek := ekI) (ev := ekD) fun mv w7 hmv f7 hs7 m7 => ⟨rec' (f6.trans0 f7), ?_⟩
      refine callP_of (Clone64_spec (h5.fr0 (f6.trans0 f7)) hb40) ?_
      rintro v w8 ⟨t, rfl, ht, htf, f8⟩
      refine ⟨t, rfl, rec' ((f6.trans0 f7).trans0 f8), ?_⟩
      have := f7.size; have := f6.size
      exact fin t mv mt ((f6.trans0 f7).trans0 f8) (by omega) (by omega) (by omega) ht (htf.mono (by omega)) (m7.fr0 f8) (m6.fr0 (f7.trans0 f8))
end Go.Proofs.YtpcgkfgppfjnlaaGreatDoor.V
namespace Go.Proofs.YtpcgkfgppfjnlaaGreatDoor.V
open Go Go.RowKit
variable {S : Nat → Prop} {w0 w : World}

/-- a height's claims, as the map has them -/
def evC (p : Nat × Nat) : Value := .agg #[.pointer (some ⟨p.1, 0, none⟩), .map (some p.2)]
def hearTail (b3 b8 c : Nat) (h : Int) (w_3 : World) (Q : Value → World → Prop) : Prop :=
  rd .slc w_3 ⟨b3, 2, none⟩ 0 fun x58 =>
  callP Tryz.prog 23 #[(.slice x58.p x58.len x58.cap)] w_3 fun v_1 w_4 =>
  ∃ r59 : Nat → Int, v_1 = (arrV .u8 32 r59) ∧
  al w_4 (.cells ((cellsA .u8 (fun _ => 0) 0 32) : List Value).toArray 50) fun b10 w_5 =>
  wr w_5 ⟨b10, 0, none⟩ (cellsA .u8 r59 0 32) fun w_6 =>
  rd .ptr w_6 ⟨b8, 0, none⟩ 0 fun x61 =>
  rd (.int .i64) w_6 ⟨b3, 1, none⟩ 0 fun x63 =>
  rd (.arr .u8 32) w_6 ⟨b10, 0, none⟩ 0 fun x64 =>
  callP Tryz.prog 24 #[(.pointer x61), (.int .i64 x63), (arrV .u8 32 x64)] w_6 fun v_2 w_7 =>
  ∃ r65 : Int, v_2 = (.int .i64 r65) ∧
  br ((r65 : Int) != 0)
    (Q (.int .i64 r65) w_7)
    (rd .map w_7 ⟨b8, 1, none⟩ 0 fun x71 =>
    rd (.arr .u8 32) w_7 ⟨b10, 0, none⟩ 0 fun x72 =>
    ∃ x73 : Sl, ∃ ok73 : Bool, mgetIs Tryz.prog 50 30 w_7 x71 (arrV .u8 32 x72) (.slice x73.p x73.len x73.cap) ok73 ∧
    br (!ok73)
      (dr w_7 fun w_8 =>
      rd .map w_8 ⟨b8, 1, none⟩ 0 fun x79 =>
      rd (.arr .u8 32) w_8 ⟨b10, 0, none⟩ 0 fun x80 =>
      rd .slc w_8 ⟨b3, 2, none⟩ 0 fun x82 =>
      callP Tryz.prog 25 #[(.slice x82.p x82.len x82.cap)] w_8 fun v_3 w_9 =>
      ∃ r83 : Sl, v_3 = (.slice r83.p r83.len r83.cap) ∧
      atC w_9 ⟨b10, 0, none⟩ 0 (cellsA .u8 x80 0 32) ∧
      atC w_9 ⟨b8, 1, none⟩ 0 [(.map x79)] ∧
      msetP Tryz.prog 50 w_9 x79 (arrV .u8 32 x80) (.slice r83.p r83.len r83.cap) fun w_10 =>
      dr w_10 fun w_11 =>
      rd .map w_11 ⟨c, 1, none⟩ 0 fun x87 =>
      rd .ptr w_11 ⟨b8, 0, none⟩ 0 fun x89 =>
      rd .map w_11 ⟨b8, 0, none⟩ 1 fun x89_1 =>
      msetP Tryz.prog 24 w_11 x87 (.int .u64 h) (.agg #[(.pointer x89), (.map x89_1)]) fun w_12 =>
      Q (.int .i64 0) w_12)
      (dr w_7 fun w_8 =>
      rd .map w_8 ⟨c, 1, none⟩ 0 fun x87 =>
      rd .ptr w_8 ⟨b8, 0, none⟩ 0 fun x89 =>
      rd .map w_8 ⟨b8, 0, none⟩ 1 fun x89_1 =>
      msetP Tryz.prog 24 w_8 x87 (.int .u64 h) (.agg #[(.pointer x89), (.map x89_1)]) fun w_9 =>
      Q (.int .i64 0) w_9))

theorem Own.rdm1 {b : Nat} {cs : List Value} {x : Option Nat} {K : Option Nat → Prop} {o : Nat} (h : Own w b cs) (hx : cs[o]? = some (.map x)) (hK : K x) : rd .map w ⟨b, 0, none⟩ o K :=
  rd_of (k := .map) x (Own.at h (by intro j hj; simp [cellsK] at hj; subst hj; simpa [cellsK] using hx)) hK
theorem atC_m {b o : Nat} {cs : List Value} {x : Option Nat} (h : Own w b cs) (hx : cs[o]? = some (.map x)) : atC w ⟨b, o, none⟩ 0 [.map x] :=
  Own.at h (by intro j hj; simp at hj; subst hj; simpa using hx)
theorem Maps.one {m : Nat} {κ ν : Type} {ek : κ → Value} {ev : ν → Value} {l : List (κ × ν)} (h : MapIs ek ev w m l) : Maps w (· = m) := fun c e => by subst e; exact h.maps
theorem Own.nem {b m : Nat} {cs : List Value} {κ ν : Type} {ek : κ → Value} {ev : ν → Value} {l : List (κ × ν)} (h : Own w b cs) (h2 : MapIs ek ev w m l) : b ≠ m := by
  rintro rfl
  obtain ⟨t, lo, hi, h, _⟩ := h
  obtain ⟨es, k, h2, _⟩ := h2
  rw [h] at h2; simp at h2
theorem zeroT_sl : zeroT Tryz.prog 30 = some (.slice none 0 0) := by kernel_rfl

/-- what blocks a height has behind a claim -/
def blNew (bl : List (Dg × (Sl × List UInt8))) (d : Dg) (t : Sl) (l : List UInt8) : List (Dg × (Sl × List UInt8)) := if (mlook bl d).isSome then bl else mput bl d (t, l)

set_option maxRecDepth 4000 in
set_option maxHeartbeats 1000000 in
theorem hear_tail {b3 b8 c am mb h : Nat} {who : Int} {x s : Sl} {l : List UInt8} {T : Tl} {st : List Nat} {vs : List (Int × Dg)} {bl : List (Dg × (Sl × List UInt8))} {la : List (Nat × (Nat × Nat))} {Q : Value → World → Prop}
    (g : Gb w) (o3 : Own w b3 [.int .u64 (h : Int), .int .i64 who, .slice x.p x.len x.cap]) (o8 : Own w b8 [.pointer (some ⟨T.b, 0, none⟩), .map (some mb)]) (oc : Own w c [.slice s.p s.len s.cap, .map (some am)])
    (hT : TallyIs w T st vs) (hb : MapIs ekD evS w mb bl) (ha : MapIs ekU evC w am la) (n1 : T.mv ≠ mb) (n2 : T.mt ≠ mb) (n3 : am ≠ T.mv) (n4 : am ≠ T.mt) (n5 : am ≠ mb)
    (hx : By w x l) (hl : l.length < 1099511627776) (hw : -9223372036854775808 ≤ who ∧ who < 9223372036854775808)
    (hE : voteRes st vs who (nameD l) ≠ 0 → ∀ w', Fr T.foot w w' → TallyIs w' T st vs → Q (.int .i64 (voteRes st vs who (nameD l))) w')
    (hQ : voteRes st vs who (nameD l) = 0 → ∀ w' t, Fr (fun q => q = T.mv ∨ q = T.mt ∨ q = mb ∨ q = am) w w' → TallyIs w' T st (mput vs who (nameD l)) → By w' t l → MapIs ekD evS w' mb (blNew bl (nameD l) t l) → MapIs ekU evC w' am (mput la h (T.b, mb)) → Q (.int .i64 0) w') :
    hearTail b3 b8 c (h : Int) w Q := by
  unfold hearTail
  refine o3.rds (o := 2) (s := x) rfl ?_
  refine callP_of (Name_spec (s := x) g hx (by omega)) ?_
  rintro v w1 ⟨rfl, f1⟩
  refine ⟨_, rfl, ?_⟩
  refine al_cells fun b10 w2 hb10 f2 hs2 o10 => ?_
  refine wr_own (vs := cellsA .u8 (dg (nameOf l)) 0 32) o10 (by simp [cellsA_len]) (cellsA_scal _ _ _ _) fun w3 f3 o10 hs3 => ?_
  have o10 : Own w3 b10 (cellsA .u8 (dg (nameOf l)) 0 32) := by simpa [cellsA_len, List.drop_eq_nil_of_le] using o10
  have f13 : Fr F0 w1 w3 := f2.trans f3 fun c hc e => by omega
  have f03 : Fr F0 w w3 := f1.trans0 f13
  refine (o8.fr f03 id).rdp (o := 0) rfl ((o3.fr f03 id).rdi (o := 1) rfl (o10.rdA ?_))
  have h3 := hT.fr0 f03
  refine callP_of (Vote_spec (d := nameD l) h3 hw) ?_
  rintro v w4 ⟨rfl, f4, h4⟩
  refine ⟨_, rfl, ?_⟩
  have hfm := h3.maps
  have f04 : Fr T.foot w w4 := (f03.mono fun _ _ x => x.elim).trans f4 fun _ _ e => e
  unfold voteNew at h4
  refine br_ne (fun hne => ?_) fun heq => ?_
  · rw [if_neg hne] at h4
    exact hE hne w4 f04 h4
  rw [if_pos heq] at h4
  have o8' := (o8.fr f03 id).frM f4 hfm
  have o10' := o10.frM f4 hfm
  have o3' := (o3.fr f03 id).frM f4 hfm
  have oc' := (oc.fr f03 id).frM f4 hfm
  have hb' := (hb.fr0 f03).fr f4 (fun e => e.elim (fun e => n1 e.symm) fun e => n2 e.symm)
  have ha' := (ha.fr0 f03).fr f4 (fun e => e.elim n3 n4)
  have hx' := (hx.fr0 f03).frM f4 hfm
  refine o8'.rdm (o := 1) rfl (o10'.rdA ?_)
  have hget := hb'.get (P := Tryz.prog) (kt := 50) (et := 30) (k := nameD l) ekD_fit ekD_eq zeroT_sl
  obtain ⟨y, hy⟩ : ∃ y : Sl, (mlook bl (nameD l)).elim (.slice none 0 0) evS = .slice y.p y.len y.cap := by
    cases mlook bl (nameD l) with
    | none => exact ⟨⟨none, 0, 0⟩, rfl⟩
    | some p => exact ⟨p.1, rfl⟩
  rw [hy] at hget
  refine ⟨y, _, hget, ?_⟩
  have hf : ∀ q, T.foot q → q = T.mv ∨ q = T.mt ∨ q = mb ∨ q = am := by
    rintro q (e | e)
    · exact .inl e
    · exact .inr (.inl e)
  have f04' : Fr (fun q => q = T.mv ∨ q = T.mt ∨ q = mb ∨ q = am) w w4 := f04.mono fun q _ e => hf q e
  refine br_not (br_of (fun hk => ?_) fun hk => ?_)
  · have fd : Fr F0 w4 (drw w4 (w4.drawn + 1)) := (Fr.refl w4).drw _
    unfold dr
    generalize drw w4 (w4.drawn + 1) = w5 at *
    refine (oc'.fr fd id).rdm (o := 1) rfl ((o8'.fr fd id).rdp (o := 0) rfl ((o8'.fr fd id).rdm1 (o := 1) rfl ?_))
    have ha5 := ha'.fr0 fd
    refine ha5.set (ek := ekU) (ev := evC) (k := h) (v := (T.b, mb)) ekU_fit ekU_eq fun w6 f6 _ ha6 => ?_
    have hm6 : Maps w5 (· = am) := .one ha5
    refine hQ heq w6 x ((f04'.trans0 fd).trans f6 fun _ _ e => .inr (.inr (.inr e))) ((h4.fr0 fd).frM f6 hm6 (fun e => n3 e.symm) (fun e => n4 e.symm)) ((hx'.fr0 fd).frM f6 hm6) ?_ ha6
    unfold blNew
    rw [if_pos hk]
    exact (hb'.fr0 fd).fr f6 fun e => n5 e.symm
  · have fd : Fr F0 w4 (drw w4 (w4.drawn + 1)) := (Fr.refl w4).drw _
    unfold dr
    generalize drw w4 (w4.drawn + 1) = w5 at *
    refine (o8'.fr fd id).rdm (o := 1) rfl ((o10'.fr fd id).rdA ((o3'.fr fd id).rds (o := 2) (s := x) rfl ?_))
    refine callP_of (Clone8_spec (s := x) (hx'.fr0 fd) (by omega)) ?_
    rintro v w6 ⟨t, rfl, ht, htf, f6⟩
    have f46 := fd.trans0 f6
    refine ⟨t, rfl, Own.at (o10'.fr f46 id) (by intro j hj; simp), atC_m (o8'.fr f46 id) rfl, ?_⟩
    have hb6 := hb'.fr0 f46
    refine hb6.set (ek := ekD) (ev := evS) (k := nameD l) (v := (t, l)) ekD_fit ekD_eq fun w7 f7 _ hb7 => ?_
    have hm7 : Maps w6 (· = mb) := .one hb6
    have fd2 : Fr F0 w7 (drw w7 (w7.drawn + 1)) := (Fr.refl w7).drw _
    generalize drw w7 (w7.drawn + 1) = w8 at *
    have oc8 := ((oc'.fr f46 id).frM f7 hm7).fr fd2 id
    have o88 := ((o8'.fr f46 id).frM f7 hm7).fr fd2 id
    refine oc8.rdm (o := 1) rfl (o88.rdp (o := 0) rfl (o88.rdm1 (o := 1) rfl ?_))
    have ha8 := ((ha'.fr0 f46).fr f7 n5).fr0 fd2
    refine ha8.set (ek := ekU) (ev := evC) (k := h) (v := (T.b, mb)) ekU_fit ekU_eq fun w9 f9 _ ha9 => ?_
    have hm9 : Maps w8 (· = am) := .one ha8
    refine hQ heq w9 t ((((f04'.trans0 f46).trans f7 fun _ _ e => .inr (.inr (.inl e))).trans0 fd2).trans f9 fun _ _ e => .inr (.inr (.inr e)))
      ((((h4.fr0 f46).frM f7 hm7 n1 n2).fr0 fd2).frM f9 hm9 (fun e => n3 e.symm) fun e => n4 e.symm) (((ht.frM f7 hm7).fr0 fd2).frM f9 hm9) ?_ ha9
    unfold blNew
    rw [if_neg (by rw [hk]; decide)]
    exact (hb7.fr0 fd2).fr f9 fun e => n5 e.symm
end Go.Proofs.YtpcgkfgppfjnlaaGreatDoor.V
namespace Go.Proofs.YtpcgkfgppfjnlaaGreatDoor.V
open Go Go.RowKit
variable {S : Nat → Prop} {w0 w : World}

/-- a height: its tally, its blocks -/
structure Hr where
  h : Nat
  T : Tl
  mb : Nat
  vs : List (Int × Dg)
  bl : List (Dg × (Sl × List UInt8))
structure Ck where
  c : Nat
  am : Nat
  s : Sl
def Hr.mut (H : Hr) (m : Nat) : Prop := m = H.T.mv ∨ m = H.T.mt ∨ m = H.mb
def Ck.mut (C : Ck) (hs : List Hr) (m : Nat) : Prop := m = C.am ∨ ∃ H ∈ hs, H.mut m
def allOf (hs : List Hr) : List (Nat × (Nat × Nat)) := hs.map fun H => (H.h, (H.T.b, H.mb))
structure ChaseIs (w : World) (C : Ck) (st : List Nat) (hs : List Hr) : Prop where
  own : Own w C.c [.slice C.s.p C.s.len C.s.cap, .map (some C.am)]
  wst : Wd w C.s st
  all : MapIs ekU evC w C.am (allOf hs)
  tal : ∀ H ∈ hs, TallyIs w H.T st H.vs
  blk : ∀ H ∈ hs, MapIs ekD evS w H.mb H.bl
  cont : ∀ H ∈ hs, ∀ q ∈ H.bl, By w q.2.1 q.2.2 ∧ nameD q.2.2 = q.1 ∧ q.2.2.length < 1099511627776
  nd1 : ∀ H ∈ hs, H.T.mv ≠ H.mb ∧ H.T.mt ≠ H.mb ∧ ¬ H.mut C.am
  nd2 : ∀ H ∈ hs, ∀ K ∈ hs, H.h ≠ K.h → ∀ m, H.mut m → ¬ K.mut m
  ok : newErr st = 0
  w64 : W64 st
  n : hs.length ≤ 20
theorem ChaseIs.maps {C : Ck} {st : List Nat} {hs : List Hr} (h : ChaseIs w C st hs) : Maps w (C.mut hs) := by
  rintro m (rfl | ⟨H, hH, hm⟩)
  · exact h.all.maps
  · rcases hm with rfl | rfl | rfl
    · exact (h.tal H hH).mvs.maps
    · exact (h.tal H hH).tw.choose_spec.maps
    · exact (h.blk H hH).maps
theorem ChaseIs.lt {C : Ck} {st : List Nat} {hs : List Hr} (h : ChaseIs w C st hs) {m : Nat} (hm : C.mut hs m) : m < w.heap.size := by
  obtain ⟨es, k, he⟩ := h.maps m hm
  exact heap_lt he
theorem ChaseIs.fr {w' : World} {C : Ck} {st : List Nat} {hs : List Hr} (h : ChaseIs w C st hs) (hf : Fr S w w') (hm : Maps w S) (hd : ∀ m, S m → ¬ C.mut hs m) : ChaseIs w' C st hs := by
  have e : ∀ m, C.mut hs m → ¬ S m := fun m h1 h2 => hd m h2 h1
  refine ⟨h.own.frM hf hm, h.wst.frM hf hm, h.all.fr hf (e _ (.inl rfl)), fun H hH => (h.tal H hH).frM hf hm (e _ (.inr ⟨H, hH, .inl rfl⟩)) (e _ (.inr ⟨H, hH, .inr (.inl rfl)⟩)),
    fun H hH => (h.blk H hH).fr hf (e _ (.inr ⟨H, hH, .inr (.inr rfl)⟩)), fun H hH q hq => ?_, h.nd1, h.nd2, h.ok, h.w64, h.n⟩
  obtain ⟨a, b, c⟩ := h.cont H hH q hq
  exact ⟨a.frM hf hm, b, c⟩
theorem ChaseIs.fr0 {w' : World} {C : Ck} {st : List Nat} {hs : List Hr} (h : ChaseIs w C st hs) (hf : Fr F0 w w') : ChaseIs w' C st hs := h.fr hf (fun _ x => x.elim) fun _ x => x.elim

set_option maxRecDepth 4000 in
theorem cNew_spec {s : Sl} {st : List Nat} (g : Gb w) (h : Wd w s st) (h64 : W64 st) (hn : st.length < 9223372036854775808) :
    callP Tryz.prog 7 #[s.v] w fun v w' => Fr F0 w w' ∧
      ((newErr st ≠ 0 ∧ v = .tuple #[.pointer none, .int .i64 (newErr st)]) ∨ (newErr st = 0 ∧ ∃ C : Ck, v = .tuple #[.pointer (some ⟨C.c, 0, none⟩), .int .i64 0] ∧ ChaseIs w' C st [] ∧ w.heap.size ≤ C.c ∧ w.heap.size ≤ C.am)) := by
  refine chase_New_ok ?_
  unfold chase_New
  refine callP_of (vNew_spec g h h64 hn) ?_
  rintro v w1 ⟨f1, ⟨he, rfl⟩ | ⟨he, T, rfl, hTf, hT⟩⟩
  · exact ⟨_, _, rfl, br_ne (fun _ => ⟨f1, .inl ⟨he, rfl⟩⟩) fun h => absurd h he⟩
  · refine ⟨_, _, rfl, br_ne (fun h => absurd rfl h) fun _ => ?_⟩
    have hl := hT.len
    refine callP_of (Clone64_spec (h.fr0 f1) (by omega)) ?_
    rintro v w2 ⟨t, rfl, ht, htf, f2⟩
    refine ⟨t, rfl, ?_⟩
    refine al_map (ek := ekU) (ev := evC) fun am w3 ham f3 hs3 m3 => ?_
    refine al_cells (cs := [.slice t.p t.len t.cap, .map (some am)]) fun c w4 hc f4 hs4 o4 => ?_
    have := f1.size; have := f2.size; have := f3.size
    refine ⟨((f1.trans0 f2).trans0 f3).trans0 f4, .inr ⟨he, ⟨c, am, t⟩, rfl, ⟨o4, ht.fr0 (f3.trans0 f4), m3.fr0 f4, by simp, by simp, by simp, by simp, by simp, he, h64, by simp⟩, by show _ ≤ c; omega, by show _ ≤ am; omega⟩⟩

structure Ab where
  h : Nat
  vs : List (Int × Dg)
  bl : List (Dg × List UInt8)
def Hr.ab (H : Hr) : Ab := ⟨H.h, H.vs, H.bl.map fun q => (q.1, q.2.2)⟩
def blA (bl : List (Dg × List UInt8)) (d : Dg) (l : List UInt8) : List (Dg × List UInt8) := if (mlook bl d).isSome then bl else mput bl d l
def hear (st : List Nat) (A : List Ab) (h : Nat) (who : Int) (l : List UInt8) : Int × List Ab :=
  if (unpack l).2.2 ≠ 0 ∨ (unpack l).1 ≠ h then (31, A) else
  match A.find? fun a => decide (h = a.h) with
  | none => if A.length ≥ 20 then (52, A) else if voteRes st [] who (nameD l) ≠ 0 then (voteRes st [] who (nameD l), A) else (0, A ++ [⟨h, mput [] who (nameD l), blA [] (nameD l) l⟩])
  | some a => if voteRes st a.vs who (nameD l) ≠ 0 then (voteRes st a.vs who (nameD l), A) else
    (0, A.map fun b => if b.h = h then ⟨h, mput b.vs who (nameD l), blA b.bl (nameD l) l⟩ else b)

theorem mlook_map {κ ν μ : Type} [DecidableEq κ] (f : ν → μ) (l : List (κ × ν)) (k : κ) : mlook (l.map fun p => (p.1, f p.2)) k = (mlook l k).map f := by
  unfold mlook
  rw [List.find?_map]
  cases hh : l.find? ((fun p => decide (k = p.1)) ∘ fun p => (p.1, f p.2)) with
  | none =>
    have : l.find? (fun p => decide (k = p.1)) = none := hh
    rw [this]; rfl
  | some p =>
    have : l.find? (fun p => decide (k = p.1)) = some p := hh
    rw [this]; rfl
theorem mput_map {κ ν μ : Type} [DecidableEq κ] (f : ν → μ) (l : List (κ × ν)) (k : κ) (v : ν) : mput (l.map fun p => (p.1, f p.2)) k (f v) = (mput l k v).map fun p => (p.1, f p.2) := by
  unfold mput
  have e : (l.map fun p => (p.1, f p.2)).map (·.1) = l.map (·.1) := by simp
  rw [e]
  split
  · rw [List.map_map, List.map_map]
    apply List.map_congr_left
    intro p _
    simp only [Function.comp]
    split <;> rfl
  · simp
theorem blNew_ab (bl : List (Dg × (Sl × List UInt8))) (d : Dg) (t : Sl) (l : List UInt8) : (blNew bl d t l).map (fun q => (q.1, q.2.2)) = blA (bl.map fun q => (q.1, q.2.2)) d l := by
  unfold blNew blA
  rw [mlook_map (fun q : Sl × List UInt8 => q.2)]
  simp only [Option.isSome_map]
  split
  · rfl
  · exact (mput_map (fun q : Sl × List UInt8 => q.2) bl d (t, l)).symm
theorem heap_idx {α : Type} {l : List α} {i : Nat} {x : α} (h : l[i]? = some x) : i < l.length := Nat.lt_of_not_le fun h1 => by rw [List.getElem?_eq_none h1] at h; simp at h
theorem mput_same {κ ν : Type} [DecidableEq κ] {l : List (κ × ν)} {k : κ} {v : ν} (hn : (l.map (·.1)).Nodup) (h : (k, v) ∈ l) : mput l k v = l := by
  unfold mput
  rw [if_pos (List.mem_map.mpr ⟨_, h, rfl⟩)]
  conv => rhs; rw [← List.map_id l]
  apply List.map_congr_left
  intro p hp
  split
  · rename_i e
    have : p = (k, v) := by
      obtain ⟨i, hi⟩ := List.getElem?_of_mem hp
      obtain ⟨j, hj⟩ := List.getElem?_of_mem h
      have h1 : (l.map (·.1))[i]? = some k := by simp [hi, e]
      have h2 : (l.map (·.1))[j]? = some k := by simp [hj]
      have := (List.getElem?_inj (heap_idx h1) hn).mp (h1.trans h2.symm)
      subst this
      rw [hi] at hj
      exact Option.some.inj hj
    rw [this]; rfl
  · rfl
end Go.Proofs.YtpcgkfgppfjnlaaGreatDoor.V
namespace Go.Proofs.YtpcgkfgppfjnlaaGreatDoor.V
open Go Go.RowKit
variable {S : Nat → Prop} {w0 w : World}

theorem ChaseIs.keys {C : Ck} {st : List Nat} {hs : List Hr} (h : ChaseIs w C st hs) : (hs.map (·.h)).Nodup := by
  obtain ⟨_, _, _, hv⟩ := h.all
  have := hv.keys
  unfold allOf at this
  rw [List.map_map] at this
  exact this
theorem ChaseIs.uniq {C : Ck} {st : List Nat} {hs : List Hr} (h : ChaseIs w C st hs) {H K : Hr} (h1 : H ∈ hs) (h2 : K ∈ hs) (e : H.h = K.h) : H = K := by
  obtain ⟨i, hi⟩ := List.getElem?_of_mem h1
  obtain ⟨j, hj⟩ := List.getElem?_of_mem h2
  have a : (hs.map (·.h))[i]? = some H.h := by simp [hi]
  have b : (hs.map (·.h))[j]? = some H.h := by simp [hj, e]
  have := (List.getElem?_inj (heap_idx a) h.keys).mp (a.trans b.symm)
  subst this
  rw [hi] at hj
  exact Option.some.inj hj
theorem mlook_all (hs : List Hr) (h : Nat) : mlook (allOf hs) h = (hs.find? fun H => decide (h = H.h)).map fun H => (H.T.b, H.mb) := by
  unfold mlook allOf
  rw [List.find?_map]
  have : ((fun p : Nat × (Nat × Nat) => decide (h = p.1)) ∘ fun H : Hr => (H.h, (H.T.b, H.mb))) = fun H => decide (h = H.h) := rfl
  rw [this]
  cases hs.find? fun H => decide (h = H.h) <;> rfl
theorem find_ab (hs : List Hr) (h : Nat) : ((hs.map Hr.ab).find? fun a => decide (h = a.h)) = (hs.find? fun H => decide (h = H.h)).map Hr.ab := by
  rw [List.find?_map]; rfl

def Hr.upd (h : Nat) (vs : List (Int × Dg)) (bl : List (Dg × (Sl × List UInt8))) (K : Hr) : Hr := if K.h = h then { K with vs := vs, bl := bl } else K
/-- one height's claims turned -/
theorem ChaseIs.upd {C : Ck} {st : List Nat} {hs : List Hr} (h : ChaseIs w C st hs) {H : Hr} (hH : H ∈ hs) {w' : World} {vs : List (Int × Dg)} {bl : List (Dg × (Sl × List UInt8))}
    (hf : Fr (fun m => H.mut m ∨ m = C.am) w w') (hT : TallyIs w' H.T st vs) (hb : MapIs ekD evS w' H.mb bl) (ha : MapIs ekU evC w' C.am (allOf hs))
    (hc : ∀ q ∈ bl, By w' q.2.1 q.2.2 ∧ nameD q.2.2 = q.1 ∧ q.2.2.length < 1099511627776) : ChaseIs w' C st (hs.map (Hr.upd H.h vs bl)) := by
  have hm : Maps w (fun m => H.mut m ∨ m = C.am) := by
    rintro m (hx | rfl)
    · exact h.maps m (.inr ⟨H, hH, hx⟩)
    · exact h.all.maps
  have key : ∀ K ∈ hs.map (Hr.upd H.h vs bl), ∃ K0 ∈ hs, K.h = K0.h ∧ K.T = K0.T ∧ K.mb = K0.mb ∧ ((K0 = H ∧ K.vs = vs ∧ K.bl = bl) ∨ (K0.h ≠ H.h ∧ K.vs = K0.vs ∧ K.bl = K0.bl)) := by
    intro K hK
    obtain ⟨K0, h0, rfl⟩ := List.mem_map.mp hK
    refine ⟨K0, h0, ?_⟩
    unfold Hr.upd
    by_cases e : K0.h = H.h
    · rw [if_pos e]
      have := h.uniq h0 hH e
      subst this
      exact ⟨rfl, rfl, rfl, .inl ⟨rfl, rfl, rfl⟩⟩
    · rw [if_neg e]
      exact ⟨rfl, rfl, rfl, .inr ⟨e, rfl, rfl⟩⟩
  have hall : allOf (hs.map (Hr.upd H.h vs bl)) = allOf hs := by
    unfold allOf
    rw [List.map_map]
    apply List.map_congr_left
    intro K _
    simp only [Function.comp, Hr.upd]
    split <;> rfl
  have hdis : ∀ K0 ∈ hs, K0.h ≠ H.h → ∀ m, K0.mut m → ¬ (H.mut m ∨ m = C.am) := by
    rintro K0 h0 hne m hm (x | rfl)
    · exact h.nd2 K0 h0 H hH hne m hm x
    · exact (h.nd1 K0 h0).2.2 hm
  refine ⟨h.own.frM hf hm, h.wst.frM hf hm, by rw [hall]; exact ha, fun K hK => ?_, fun K hK => ?_, fun K hK q hq => ?_, fun K hK => ?_, fun K hK K' hK' hne m hm1 hm2 => ?_, h.ok, h.w64, by rw [List.length_map]; exact h.n⟩
  · obtain ⟨K0, h0, e1, e2, e3, ⟨rfl, e4, e5⟩ | ⟨hne, e4, e5⟩⟩ := key K hK
    · rw [e2, e4]; exact hT
    · rw [e2, e4]
      exact (h.tal K0 h0).frM hf hm (hdis K0 h0 hne _ (.inl rfl)) (hdis K0 h0 hne _ (.inr (.inl rfl)))
  · obtain ⟨K0, h0, e1, e2, e3, ⟨rfl, e4, e5⟩ | ⟨hne, e4, e5⟩⟩ := key K hK
    · rw [e3, e5]; exact hb
    · rw [e3, e5]
      exact (h.blk K0 h0).fr hf (hdis K0 h0 hne _ (.inr (.inr rfl)))
  · obtain ⟨K0, h0, e1, e2, e3, ⟨rfl, e4, e5⟩ | ⟨hne, e4, e5⟩⟩ := key K hK
    · rw [e5] at hq; exact hc q hq
    · rw [e5] at hq
      obtain ⟨a, b, c⟩ := h.cont K0 h0 q hq
      exact ⟨a.frM hf hm, b, c⟩
  · obtain ⟨K0, h0, e1, e2, e3, _⟩ := key K hK
    have := h.nd1 K0 h0
    unfold Hr.mut at this ⊢
    rw [e2, e3]; exact this
  · obtain ⟨K0, h0, e1, e2, e3, _⟩ := key K hK
    obtain ⟨K1, h1, g1, g2, g3, _⟩ := key K' hK'
    unfold Hr.mut at hm1 hm2
    rw [e2, e3] at hm1
    rw [g2, g3] at hm2
    exact h.nd2 K0 h0 K1 h1 (by rw [← e1, ← g1]; exact hne) m hm1 hm2
theorem upd_mut {C : Ck} {hs : List Hr} {h : Nat} {vs : List (Int × Dg)} {bl : List (Dg × (Sl × List UInt8))} {m : Nat} (hm : C.mut (hs.map (Hr.upd h vs bl)) m) : C.mut hs m := by
  rcases hm with rfl | ⟨K, hK, hm⟩
  · exact .inl rfl
  · obtain ⟨K0, h0, rfl⟩ := List.mem_map.mp hK
    refine .inr ⟨K0, h0, ?_⟩
    unfold Hr.upd at hm
    split at hm <;> exact hm
theorem zeroT_cl : zeroT Tryz.prog 66 = some (.agg #[.pointer none, .map none]) := by kernel_rfl

set_option maxRecDepth 4000 in
set_option maxHeartbeats 2000000 in
theorem Hear_spec {C : Ck} {st : List Nat} {hs : List Hr} {h : Nat} {who : Int} {x : Sl} {l : List UInt8} (g : Gb w) (hC : ChaseIs w C st hs) (hx : By w x l) (hl : l.length < 1099511627776)
    (hw : -9223372036854775808 ≤ who ∧ who < 9223372036854775808) :
    callP Tryz.prog 8 #[.pointer (some ⟨C.c, 0, none⟩), .agg #[.int .u64 (h : Int), .int .i64 who, .slice x.p x.len x.cap]] w fun v w' =>
      v = .int .i64 (hear st (hs.map Hr.ab) h who l).1 ∧ Fr (C.mut hs) w w' ∧ ∃ hs', ChaseIs w' C st hs' ∧ hs'.map Hr.ab = (hear st (hs.map Hr.ab) h who l).2 ∧ ∀ m, C.mut hs' m → C.mut hs m ∨ w.heap.size ≤ m := by
  suffices H : ∀ Q : Value → World → Prop, (∀ w' hs', Fr (C.mut hs) w w' → ChaseIs w' C st hs' → hs'.map Hr.ab = (hear st (hs.map Hr.ab) h who l).2 → (∀ m, C.mut hs' m → C.mut hs m ∨ w.heap.size ≤ m) → Q (.int .i64 (hear st (hs.map Hr.ab) h who l).1) w') →
      callP Tryz.prog 8 #[.pointer (some ⟨C.c, 0, none⟩), .agg #[.int .u64 (h : Int), .int .i64 who, .slice x.p x.len x.cap]] w Q from H _ fun w' hs' a1 a2 a3 a4 => ⟨rfl, a1, hs', a2, a3, a4⟩
  intro Q hQ
  have hF0 : ∀ {w'}, Fr F0 w w' → Fr (C.mut hs) w w' := fun f => f.mono fun _ _ x => x.elim
  refine chase_Chase_Hear_ok (p1_2 := x) ?_
  unfold chase_Chase_Hear
  simp only [nn_some, add_lit, Nat.zero_add]
  refine al_cells (cs := [.int .u64 (h : Int), .int .i64 who, .slice x.p x.len x.cap]) fun b3 w1 hb3 f1 hs1 o3 => ?_
  refine o3.rds (o := 2) (s := x) rfl ?_
  refine callP_of (Unpack_spec (s := x) (hx.fr0 f1) hl) ?_
  rintro v w2 ⟨t, M, rfl, f2, _, _⟩
  refine ⟨_, t, _, rfl, ?_⟩
  have f02 := f1.trans0 f2
  have C2 := hC.fr0 f02
  have o3 := o3.fr f2 id
  unfold hear at hQ
  have bad : (unpack l).2.2 ≠ 0 ∨ (unpack l).1 ≠ h → Q (.int .i64 31) w2 := by
    intro hb
    simp only [if_pos hb] at hQ
    exact hQ w2 hs (hF0 f02) C2 rfl fun m hm => .inl hm
  refine br_ne (fun hne => bad (.inl hne)) fun he0 => o3.rdi (o := 0) rfl (br_ne (fun hne => bad (.inr fun e => hne (by rw [e]))) fun he1 => ?_)
  have hne : ¬ ((unpack l).2.2 ≠ 0 ∨ (unpack l).1 ≠ h) := by
    rintro (q | q)
    · exact q he0
    · exact q (by omega)
  simp only [if_neg hne, find_ab] at hQ
  rw [he1]
  refine C2.own.rdm (o := 1) rfl ?_
  have hget := C2.all.get (P := Tryz.prog) (kt := 24) (et := 66) (k := h) ekU_fit ekU_eq zeroT_cl
  rw [mlook_all] at hget
  cases hfd : hs.find? fun H => decide (h = H.h) with
  | some H =>
    rw [hfd] at hget hQ
    have hH : H ∈ hs := List.mem_of_find?_eq_some hfd
    have hHh : h = H.h := by have := List.find?_some hfd; simpa using this
    subst hHh
    refine ⟨some ⟨H.T.b, 0, none⟩, some H.mb, true, hget, ?_⟩
    refine al_cells (cs := [.pointer none, .map none]) fun b8 w3 hb8 f3 hs3 o8 => ?_
    refine wr_own (vs := [.pointer (some ⟨H.T.b, 0, none⟩), .map (some H.mb)]) o8 (by simp) (by simp [scal]) fun w4 f4 o8 hs4 => ?_
    have o8 : Own w4 b8 [.pointer (some ⟨H.T.b, 0, none⟩), .map (some H.mb)] := by simpa using o8
    have f24 : Fr F0 w2 w4 := f3.trans f4 fun c hc e => by omega
    have f04 := f02.trans0 f24
    have C4 := hC.fr0 f04
    refine br_false rfl ?_
    have n1 := C4.nd1 H hH
    refine hear_tail (l := l) (x := x) (s := C.s) (T := H.T) (st := st) (vs := H.vs) (bl := H.bl) (la := allOf hs) (am := C.am) (mb := H.mb) (g.fr0 f04) (o3.fr f24 id) o8 C4.own (C4.tal H hH) (C4.blk H hH) C4.all n1.1 n1.2.1 (fun e => n1.2.2 (.inl e)) (fun e => n1.2.2 (.inr (.inl e))) (fun e => n1.2.2 (.inr (.inr e))) (hx.fr0 f04) hl hw ?_ ?_
    · intro he w' f' hT'
      simp only [Option.map_some, show H.ab.vs = H.vs from rfl, if_pos he] at hQ
      have hm4 : Maps w4 H.T.foot := (C4.tal H hH).maps
      have hfo : ∀ m, H.T.foot m → H.mut m := fun m hm => hm.elim .inl fun e => .inr (.inl e)
      have hmb : ¬ H.T.foot H.mb := fun e => e.elim (fun e => n1.1 e.symm) fun e => n1.2.1 e.symm
      have ham : ¬ H.T.foot C.am := fun e => n1.2.2 (hfo _ e)
      refine hQ w' (hs.map (Hr.upd H.h H.vs H.bl)) ((hF0 f04).trans f' fun m _ hm => .inr ⟨H, hH, hfo m hm⟩) (C4.upd hH (f'.mono fun m _ hm => .inl (hfo m hm)) hT' ((C4.blk H hH).fr f' hmb) (C4.all.fr f' ham) fun q hq => ?_) ?_ fun m hm => .inl (upd_mut hm)
      · obtain ⟨a, b, c⟩ := C4.cont H hH q hq
        exact ⟨a.frM f' hm4, b, c⟩
      · congr 1
        conv => rhs; rw [← List.map_id hs]
        apply List.map_congr_left
        intro K hK
        unfold Hr.upd
        split
        · rename_i e
          have := hC.uniq hK hH e
          subst this; rfl
        · rfl
    · intro he w' t' f' hT' hy hb' ha'
      simp only [Option.map_some, show H.ab.vs = H.vs from rfl, if_neg (show ¬ voteRes st H.vs who (nameD l) ≠ 0 from fun q => q he)] at hQ
      have hmut : ∀ m, (m = H.T.mv ∨ m = H.T.mt ∨ m = H.mb ∨ m = C.am) → H.mut m ∨ m = C.am := by
        rintro m (e | e | e | e)
        · exact .inl (.inl e)
        · exact .inl (.inr (.inl e))
        · exact .inl (.inr (.inr e))
        · exact .inr e
      have hm4 : Maps w4 (fun m => m = H.T.mv ∨ m = H.T.mt ∨ m = H.mb ∨ m = C.am) := fun m hm => C4.maps m ((hmut m hm).elim (fun e => .inr ⟨H, hH, e⟩) .inl)
      have ha' : MapIs ekU evC w' C.am (allOf hs) := by
        rw [mput_same] at ha'
        · exact ha'
        · have := hC.keys; unfold allOf; rw [List.map_map]; exact this
        · exact List.mem_map.mpr ⟨H, hH, rfl⟩
      refine hQ w' (hs.map (Hr.upd H.h (mput H.vs who (nameD l)) (blNew H.bl (nameD l) t' l))) ((hF0 f04).trans f' fun m _ hm => (hmut m hm).elim (fun e => .inr ⟨H, hH, e⟩) .inl) (C4.upd hH (f'.mono fun m _ hm => hmut m hm) hT' hb' ha' fun q hq => ?_) ?_ fun m hm => .inl (upd_mut hm)
      · unfold blNew at hq
        have old : ∀ q ∈ H.bl, By w' q.2.1 q.2.2 ∧ nameD q.2.2 = q.1 ∧ q.2.2.length < 1099511627776 := fun q hq => by
          obtain ⟨a, b, c⟩ := C4.cont H hH q hq
          exact ⟨a.frM f' hm4, b, c⟩
        split at hq
        · exact old q hq
        · unfold mput at hq
          split at hq
          · obtain ⟨q0, h0, rfl⟩ := List.mem_map.mp hq
            by_cases hno : q0.1 = nameD l
            · rw [if_pos hno]; exact ⟨hy, rfl, hl⟩
            · rw [if_neg hno]; exact old q0 h0
          · rcases List.mem_append.mp hq with hq | hq
            · exact old q hq
            · simp at hq; subst hq
              exact ⟨hy, rfl, hl⟩
      · rw [List.map_map, List.map_map]
        apply List.map_congr_left
        intro K hK
        simp only [Function.comp, Hr.upd]
        by_cases e : K.h = H.h
        · have := hC.uniq hK hH e
          subst this
          simp only [if_true, Hr.ab]
          rw [blNew_ab]
        · have e' : ¬ K.ab.h = H.h := e
          rw [if_neg e, if_neg e']
  | none =>
    rw [hfd] at hget hQ
    simp only [Option.map_none] at hQ
    have hno : h ∉ (allOf hs).map (·.1) := by
      intro hin
      unfold allOf at hin
      rw [List.map_map] at hin
      obtain ⟨K, hK, hKh⟩ := List.mem_map.mp hin
      have := List.find?_eq_none.mp hfd K hK
      simp only [Function.comp] at hKh
      simp [hKh] at this
    refine ⟨none, none, false, hget, ?_⟩
    refine al_cells (cs := [.pointer none, .map none]) fun b8 w3 hb8 f3 hs3 o8 => ?_
    refine wr_own (vs := [.pointer none, .map none]) o8 (by simp) (by simp [scal]) fun w4 f4 o8 hs4 => ?_
    have o8 : Own w4 b8 [.pointer none, .map none] := by simpa using o8
    have f24 : Fr F0 w2 w4 := f3.trans f4 fun c hc e => by omega
    have f04 := f02.trans0 f24
    have C4 := hC.fr0 f04
    refine br_true rfl (C4.own.rdm (o := 1) rfl ⟨_, C4.all.mlen, ?_⟩)
    have hlen : (allOf hs).length = hs.length := by simp [allOf]
    rw [hlen]
    simp only [List.length_map] at hQ
    refine br_ge (fun hge => ?_) fun hge => ?_
    · simp only [if_pos (show hs.length ≥ 20 by omega)] at hQ
      exact hQ w4 hs (hF0 f04) C4 rfl fun m hm => .inl hm
    simp only [if_neg (show ¬ hs.length ≥ 20 by omega)] at hQ
    refine C4.own.rds (o := 0) (s := C.s) rfl ?_
    have hst40 : st.length ≤ 40 := by
      have := C4.ok
      unfold newErr at this
      split at this
      · cases this
      · omega
    refine callP_of (vNew_spec (s := C.s) (g.fr0 f04) C4.wst C4.w64 (by omega)) ?_
    rintro v w5 ⟨f5, ⟨hbad, _⟩ | ⟨_, T, rfl, hTf, hT⟩⟩
    · exact absurd C4.ok hbad
    refine ⟨_, _, rfl, ?_⟩
    have hb8lt := o8.lt
    refine wr_one (o8.fr f5 id) (by simp) rfl fun w6 f6 o8 hs6 => ?_
    have o8 : Own w6 b8 [.pointer (some ⟨T.b, 0, none⟩), .map none] := by simpa using o8
    refine al_map (ek := ekD) (ev := evS) fun mb w7 hmb f7 hs7 m7 => ?_
    have f6b : Fr (· = b8) w5 w7 := f6.trans0 f7
    refine wr_one (o8.fr f7 id) (by simp) rfl fun w8 f8 o8 hs8 => ?_
    have o8 : Own w8 b8 [.pointer (some ⟨T.b, 0, none⟩), .map (some mb)] := by simpa using o8
    have f58 : Fr (· = b8) w5 w8 := f6b.trans f8 fun _ _ e => e
    have f28 : Fr F0 w2 w8 := (f24.trans0 f5).trans f58 fun c hc e => by omega
    have f08 := f02.trans0 f28
    have C8 := hC.fr0 f08
    have hsz04 := f04.size
    have hsz5 := f5.size
    have hsz6 := f6.size
    have hb8T : ∀ {m}, w4.heap.size ≤ m → m ≠ b8 := fun hm e => by omega
    have hTs : ¬ T.s.in (· = b8) := hTf.s.out fun c e => by omega
    have hT8 : TallyIs w8 T st [] := by
      have hTown := hT.own.fr f58 (hb8T hTf.b)
      exact ⟨hTown, hT.wst.fr f58 hTs, hT.mvs.fr f58 (hb8T hTf.mv), let ⟨tw, ht⟩ := hT.tw; ⟨tw, ht.fr f58 (hb8T hTf.mt)⟩, hT.ne, hT.who, hT.w64, hT.sum, hT.len⟩
    have m8 : MapIs ekD evS w8 mb ([] : List (Dg × (Sl × List UInt8))) := m7.fr f8 fun e => by omega
    have hmvlt := hT.mvs.lt
    have hmtlt := hT.tw.choose_spec.lt
    have hamlt := C4.all.lt
    have hmvge := hTf.mv
    have hmtge := hTf.mt
    refine hear_tail (l := l) (x := x) (s := C.s) (T := T) (st := st) (vs := []) (bl := []) (la := allOf hs) (am := C.am) (mb := mb) (g.fr0 f08) (o3.fr f28 id) o8 C8.own hT8 m8 C8.all (by omega) (by omega) (by omega) (by omega) (by omega) (hx.fr0 f08) hl hw ?_ ?_
    · intro he w' f' hT'
      simp only [if_pos he] at hQ
      have f0' : Fr F0 w w' := f08.trans f' fun m hm e => by
        rcases e with e | e <;> omega
      exact hQ w' hs (hF0 f0') (hC.fr0 f0') rfl fun m hm => .inl hm
    · intro he w' t' f' hT' hy hb' ha'
      simp only [if_neg (show ¬ voteRes st [] who (nameD l) ≠ 0 from fun q => q he)] at hQ
      have hput : mput (allOf hs) h (T.b, mb) = allOf (hs ++ [⟨h, T, mb, mput [] who (nameD l), blNew [] (nameD l) t' l⟩]) := by
        unfold mput
        rw [if_neg hno]
        simp [allOf]
      rw [hput] at ha'
      have hm8 : Maps w8 (fun m => m = T.mv ∨ m = T.mt ∨ m = mb ∨ m = C.am) := by
        rintro m (rfl | rfl | rfl | rfl)
        · exact hT8.mvs.maps
        · exact hT8.tw.choose_spec.maps
        · exact m8.maps
        · exact C8.all.maps
      have hnew : ∀ m, (m = T.mv ∨ m = T.mt ∨ m = mb) → w.heap.size ≤ m := by
        rintro m (e | e | e) <;> omega
      have hold : ∀ H ∈ hs, ∀ m, H.mut m → ¬ (m = T.mv ∨ m = T.mt ∨ m = mb ∨ m = C.am) := by
        intro H hH m hm e
        have hlt := hC.lt (.inr ⟨H, hH, hm⟩)
        rcases e with e | e | e | e
        · omega
        · omega
        · omega
        · subst e; exact (hC.nd1 H hH).2.2 hm
      have hamlt0 := hC.all.lt
      refine hQ w' (hs ++ [⟨h, T, mb, mput [] who (nameD l), blNew [] (nameD l) t' l⟩]) ((hF0 f08).trans f' fun m hm e => ?_) ⟨C8.own.frM f' hm8, C8.wst.frM f' hm8, ha', fun K hK => ?_, fun K hK => ?_, fun K hK q hq => ?_, fun K hK => ?_, fun K hK K' hK' hne' m hm1 hm2 => ?_, hC.ok, hC.w64, by simp; omega⟩ ?_ fun m hm => ?_
      · rcases e with e | e | e | e
        · omega
        · omega
        · omega
        · exact .inl e
      · rcases List.mem_append.mp hK with hK | hK
        · exact (C8.tal K hK).frM f' hm8 (hold K hK _ (.inl rfl)) (hold K hK _ (.inr (.inl rfl)))
        · simp at hK; subst hK; exact hT'
      · rcases List.mem_append.mp hK with hK | hK
        · exact (C8.blk K hK).fr f' (hold K hK _ (.inr (.inr rfl)))
        · simp at hK; subst hK; exact hb'
      · rcases List.mem_append.mp hK with hK | hK
        · obtain ⟨a, b, c⟩ := C8.cont K hK q hq
          exact ⟨a.frM f' hm8, b, c⟩
        · simp at hK; subst hK
          have : q = (nameD l, (t', l)) := by simpa [blNew, mlook, mput] using hq
          subst this
          exact ⟨hy, rfl, hl⟩
      · rcases List.mem_append.mp hK with hK | hK
        · exact hC.nd1 K hK
        · simp at hK; subst hK
          refine ⟨by show T.mv ≠ mb; omega, by show T.mt ≠ mb; omega, ?_⟩
          rintro (e | e | e)
          · have e : C.am = T.mv := e; omega
          · have e : C.am = T.mt := e; omega
          · have e : C.am = mb := e; omega
      · rcases List.mem_append.mp hK with hK | hK
        · rcases List.mem_append.mp hK' with hK' | hK'
          · exact hC.nd2 K hK K' hK' hne' m hm1 hm2
          · simp at hK'; subst hK'
            exact hold K hK m hm1 (Or.elim hm2 .inl fun e => Or.elim e (fun e => .inr (.inl e)) fun e => .inr (.inr (.inl e)))
        · simp at hK; subst hK
          rcases List.mem_append.mp hK' with hK' | hK'
          · exact hold K' hK' m hm2 (Or.elim hm1 .inl fun e => Or.elim e (fun e => .inr (.inl e)) fun e => .inr (.inr (.inl e)))
          · simp at hK'; subst hK'; exact hne' rfl
      · rw [List.map_append]
        congr 1
      · rcases hm with rfl | ⟨K, hK, hm⟩
        · exact .inl (.inl rfl)
        · rcases List.mem_append.mp hK with hK | hK
          · exact .inl (.inr ⟨K, hK, hm⟩)
          · simp at hK; subst hK; exact .inr (hnew m hm)
end Go.Proofs.YtpcgkfgppfjnlaaGreatDoor.V
namespace Go.Proofs.YtpcgkfgppfjnlaaGreatDoor.V
open Go Go.RowKit
variable {S : Nat → Prop} {w0 w : World}

theorem mdel_perm {κ ν : Type} [DecidableEq κ] : ∀ {T : List (κ × ν)} {p : κ × ν}, (T.map (·.1)).Nodup → p ∈ T → (T.map (·.1)).Perm (p.1 :: (mdel T p.1).map (·.1))
  | q :: T, p, hn, hp => by
    simp only [List.map_cons, List.nodup_cons] at hn
    by_cases h : q.1 = p.1
    · have a2 : mdel (q :: T) p.1 = T := by
        unfold mdel
        rw [List.filter_cons]
        simp only [h, ne_eq, not_true_eq_false, decide_false, Bool.false_eq_true, if_false]
        rw [List.filter_eq_self]
        intro y hy
        have : y.1 ≠ p.1 := fun e => hn.1 (List.mem_map.mpr ⟨y, hy, e.trans h.symm⟩)
        simp [this]
      rw [a2, List.map_cons, h]
    · have hp' : p ∈ T := by
        rcases List.mem_cons.mp hp with h1 | h1
        · exact absurd (congrArg (·.1) h1).symm h
        · exact h1
      have ih := mdel_perm hn.2 hp'
      have a2 : mdel (q :: T) p.1 = q :: mdel T p.1 := by simp [mdel, h]
      rw [a2, List.map_cons, List.map_cons]
      exact (List.Perm.cons _ ih).trans (List.Perm.swap _ _ _)

theorem keysU_spec {ν : Type} {ev : ν → Value} {l0 Bm m : Nat} {l : List (Nat × ν)} {Q : Value → World → Prop} (J : List Nat → World → Prop) (ob : Own w Bm [.map (some m)]) (h : MapIs ekU ev w m l)
    (h0 : ∀ w', Fr F0 w w' → J [] w') (hJ : ∀ ks W W', J ks W → Fr (· = w.heap.size) W W' → J ks W')
    (hY : ∀ ks k W (K : Value → World → Prop), J ks W → k ∈ l.map (·.1) → ks.length < l.length → w.heap.size < W.heap.size → (∀ W', J (ks ++ [k]) W' → Fr (fun c => c ≠ w.heap.size ∧ c ≠ m) W W' → K (.bool true) W') → yldP Tryz.prog l0 #[ekU k] W K)
    (hQ : ∀ ks W, ks.Perm (l.map (·.1)) → J ks W → Q (.tuple #[]) W) :
    callP Tryz.prog 50 #[.func (.yield l0) #[] #[], .pointer (some ⟨Bm, 0, none⟩)] w Q := by
  have hml := h.lt
  refine maps_Keys_map_uint64_chase_claims_uint64_chase_claims_c1_ok ?_
  unfold maps_Keys_map_uint64_chase_claims_uint64_chase_claims_c1
  refine ob.rdm (o := 0) rfl (It.start h fun r w1 hr f1 hit => ?_)
  subst hr
  refine ⟨fun w' => ∃ T ks, It ekU ev w' w.heap.size m l T ∧ J ks w' ∧ (ks ++ T.map (·.1)).Perm (l.map (·.1)) ∧ w.heap.size < w'.heap.size, fun w' => remN w' w.heap.size m, ⟨l, [], hit, h0 _ f1, by simp, ?_⟩, ?_⟩
  · obtain ⟨_, _, _, a, _⟩ := hit
    exact heap_lt a
  rintro w2 K ⟨T, ks, hit, hj, hp, hsz⟩ hK
  have hrem := hit.rem
  refine hit.next (by omega) (fun hT n' => ?_) fun p hpT w3 f3 hit3 hent => ?_
  · subst hT
    refine hQ ks _ (by simpa using hp) (hJ _ _ _ hj ((Fr.refl w2).drw n'))
  · have hk : (T.map (·.1)).Nodup := by obtain ⟨_, _, _, _, _, _, ht⟩ := hit; exact ht.keys
    have hlen := hp.length_eq
    simp only [List.length_append, List.length_map] at hlen
    have hTl : 0 < T.length := List.length_pos_of_mem hpT
    refine ⟨(p.1 : Int), ev p.2, hent, ?_⟩
    refine hY ks p.1 w3 _ (hJ _ _ _ hj f3) (hp.mem_iff.mp (by simp; exact .inr ⟨p.2, hpT⟩)) (by omega) (Nat.lt_of_lt_of_le hsz f3.size) fun w4 hj4 f4 => ?_
    refine ⟨true, rfl, br_false rfl ?_⟩
    have hit4 := hit3.fr f4 (fun e => e.1 rfl) (fun e => e.2 rfl)
    refine hK w4 ⟨mdel T p.1, ks ++ [p.1], hit4, hj4, ?_, Nat.lt_of_lt_of_le (Nat.lt_of_lt_of_le hsz f3.size) f4.size⟩ ?_
    · refine List.Perm.trans ?_ hp
      rw [List.append_assoc]
      exact (List.Perm.append_left ks (mdel_perm hk hpT).symm)
    · dsimp only
      rw [hrem, hit4.rem]
      exact mdel_lt hpT
end Go.Proofs.YtpcgkfgppfjnlaaGreatDoor.V
