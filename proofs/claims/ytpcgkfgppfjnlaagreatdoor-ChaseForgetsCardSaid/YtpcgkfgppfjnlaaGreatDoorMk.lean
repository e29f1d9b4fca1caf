/-
  THE LAW ChaseForgets: what is forgotten is believed no more, and nothing else changes. | ARGUMENTS READ: claims; bools.
-/
import Derived.Test.YtpcgkfgppfjnlaaGreatDoorMj
namespace Go.Proofs.YtpcgkfgppfjnlaaGreatDoor.V
open Go Go.RowKit
variable {w0 w w1 : World}

theorem blockB_len (h : Nat) (l : List UInt8) : (blockB h l).length ≤ 2000 := by
  have h1 := smallB_len h
  have key : ∀ L : List (List UInt8), L.length ≤ 1 → (packB h L).1.length ≤ 2000 := by
    intro L hL
    have h2 := smallB_len L.length
    unfold packB
    split
    · simp
    · rename_i hc
      split
      · simp
      · simp only [List.length_append]
        match L, hL with
        | [], _ => simp only [List.map_nil, List.flatten_nil, List.length_nil] at h2 ⊢; omega
        | [x], _ =>
          have h3 := smallB_len x.length
          have hx : x.length ≤ 1000 := by
            rcases Nat.lt_or_ge 1000 x.length with q | q
            · exact absurd (Or.inr (by simp; omega)) hc
            · exact q
          simp only [List.map_cons, List.map_nil, List.flatten_cons, List.flatten_nil, List.append_nil, List.length_singleton, bytesB, List.length_append] at h2 ⊢
          omega
  unfold blockB
  split
  · exact key _ (by simp)
  · exact key _ (by simp)
theorem find_forget (b h : Nat) : ∀ A : List Ab, (forget A b).find? (fun a => decide (h = a.h)) = if b ≤ h then A.find? (fun a => decide (h = a.h)) else none
  | [] => by simp [forget]
  | a :: A => by
    have ih := find_forget b h A
    unfold forget at ih ⊢
    by_cases h1 : b ≤ a.h
    · rw [List.filter_cons_of_pos (by simpa using h1), List.find?_cons, List.find?_cons]
      by_cases h2 : h = a.h
      · subst h2
        simp [h1]
      · simpa [h2] using ih
    · rw [List.filter_cons_of_neg (by simpa using h1), ih, List.find?_cons]
      by_cases h2 : h = a.h
      · subst h2
        simp [h1]
      · simp [h2]
theorem believed_forget (st : List Nat) (A : List Ab) (b h : Nat) : believed st (forget A b) h = if b ≤ h then believed st A h else none := by
  unfold believed
  rw [find_forget]
  by_cases hb : b ≤ h
  · rw [if_pos hb, if_pos hb]
  · rw [if_neg hb, if_neg hb]
theorem atC.fr0 {w' : World} {a : Addr} {k : Nat} {vs : List Value} (h : atC w a k vs) (hf : Fr F0 w w') : atC w' a k vs := h.fr hf id
/-- the cells of one claim -/
theorem Cs.at {s : Sl} {M : List Cm} (h : Cs w s M) {i : Nat} {p : Cm} (hp : M[i]? = some p) : ∃ a, s.p = some a ∧ atC w (a.add (i * 3)) 0 [.int .u64 (p.1 : Int)] ∧ atC w ((a.add (i * 3)).add 1) 0 [.int .i64 p.2.1] ∧
    atC w ((a.add (i * 3)).add 2) 0 [.slice p.2.2.1.p p.2.2.1.len p.2.2.1.cap] ∧ By w p.2.2.1 p.2.2.2 := by
  have hl := h.len
  have hi : i < M.length := by
    rcases Nat.lt_or_ge i M.length with q | q
    · exact q
    · rw [List.getElem?_eq_none q] at hp; simp at hp
  have hb := h.2 p (List.mem_of_getElem? hp)
  obtain ⟨q, n, c⟩ := s
  obtain ⟨⟨_, h2, h3⟩, _⟩ := h
  simp only at hl h2
  cases q with
  | none => simp only at h3; omega
  | some a =>
    obtain ⟨h4, _, h5⟩ := h3 (show c ≠ 0 by omega)
    have key : ∀ (o : Nat) (v : Value), o < 3 → p.c[o]? = some v → atC w (a.add (i * 3 + o)) 0 [v] := by
      intro o v ho hv
      rw [atC.shift h4, Nat.add_zero]
      have := h5.part (us := [v]) (j := i * 3 + o) h4 fun j hj => by
        simp at hj
        subst hj
        rw [Nat.add_zero, clC_get hp ho, hv]; rfl
      simpa using this
    refine ⟨a, rfl, key 0 _ (by decide) rfl, ?_, ?_, hb⟩
    · rw [add_add _ _ _ h4]; exact key 1 _ (by decide) rfl
    · rw [add_add _ _ _ h4]; exact key 2 _ (by decide) rfl
theorem Ch.n {C : Ck} {st : List Nat} {A : List Ab} (c : Ch w0 w C st A) : A.length ≤ 20 := by
  obtain ⟨hs, a, rfl, _⟩ := c.ex
  rw [List.length_map]; exact a.n
theorem Ch.bel {C : Ck} {st : List Nat} {A : List Ab} (c : Ch w0 w C st A) {k : Nat} (hf : Few k A) (hk : k < 549755813888) {h : Nat} :
    callP Tryz.prog 11 #[.pointer (some ⟨C.c, 0, none⟩), .int .u64 (h : Int)] w fun v w' => Ch w0 w' C st A ∧ Fr F0 w w' ∧
      ∃ s : Sl, v = .tuple #[s.v, .bool (V.believed st A h).isSome] ∧ By w' s ((V.believed st A h).getD []) ∧ s.fresh w ∧ ((V.believed st A h).getD []).length < 1099511627776 := by
  refine callP_of (c.believed hf hk) ?_
  rintro v w2 ⟨c2, f2, ⟨e, rfl⟩ | ⟨s, l, e, rfl, h1, h2, h3⟩⟩
  · rw [e]
    exact ⟨c2, f2, ⟨none, 0, 0⟩, rfl, By.nil, fun a ha => by simp at ha, by simp⟩
  · rw [e]
    exact ⟨c2, f2, s, rfl, h1, h2, h3⟩
/-- one number of a row -/
theorem SlC.rdN {s : Sl} {d : Nat → Int} {n : Nat} (h : SlC w s 1 (cellsA .u64 d 0 n)) (hn : s.len = n) {i : Int} (hi : 0 ≤ i) (hi2 : i < s.len) {K : Int → Prop} (hK : K (d i.toNat)) : nn s.p fun a => V.rd (.int .u64) w (Addr.add a (i.toNat * 1)) 0 K :=
  h.rd hi hi2 (k := .int .u64) (x := d i.toNat) rfl (by rw [cellsA_get, if_pos (by omega), Nat.zero_add]) hK

set_option maxRecDepth 8000 in
set_option maxHeartbeats 1000000 in
theorem ChaseForgets_spec {s0 s1 : Sl} {st : List Nat} {M : List Cm} {below : Nat} (g : Gb w) (h0 : Wd w s0 st) (h64 : W64 st) (hn : st.length < 9223372036854775808) (h1 : Cs w s1 M)
    (hM : ∀ p ∈ M, p.1 < 18446744073709551616 ∧ -9223372036854775808 ≤ p.2.1 ∧ p.2.1 < 9223372036854775808) :
    callP Tryz.prog 3 #[s0.v, s1.v, .int .u64 (below : Int)] w fun v w' => v = .bool true ∧ Fr F0 w w' := by
  suffices H : ∀ Q : Value → World → Prop, (∀ w', Fr F0 w w' → Q (.bool true) w') → callP Tryz.prog 3 #[s0.v, s1.v, .int .u64 (below : Int)] w Q from H _ fun w' f => ⟨rfl, f⟩
  intro Q hQ
  refine sortitionlaw19_ChaseForgets_ok ?_
  unfold sortitionlaw19_ChaseForgets
  refine callP_of (awake_spec g) ?_
  rintro v w1 ⟨rfl, f1⟩
  have g1 := g.fr0 f1
  refine ⟨_, rfl, ?_⟩
  refine callP_of (Ch.new (s := s0) g1 (h0.fr0 f1) h64 hn) ?_
  rintro v w2 ⟨f2, ⟨_, rfl⟩ | ⟨_, C, rfl, c2⟩⟩
  · exact ⟨none, _, rfl, br_true rfl (hQ _ (f1.trans0 f2))⟩
  refine ⟨some ⟨C.c, 0, none⟩, 0, rfl, br_false rfl (br_gt (fun _ => hQ _ (f1.trans0 f2)) fun h50 => ?_)⟩
  have hl1 := h1.len
  refine ⟨fun x w' => 0 ≤ x ∧ x ≤ s1.len ∧ ∃ A, Ch w1 w' C st A ∧ Few x.toNat A, fun x _ => (s1.len - x).toNat, ⟨by omega, by omega, [], c2, Few.nil _⟩, ?_⟩
  rintro x w3 K ⟨hx1, hx2, A, c3, n3⟩ hK
  have f3 := f1.trans0 c3.fr
  refine br_lt (fun hlt => ?_) fun hge => ?_
  · have hxl : x.toNat < M.length := by omega
    have hp := List.getElem?_eq_getElem hxl
    generalize M[x.toNat] = p at hp
    obtain ⟨b1, b2, b3⟩ := hM p (List.mem_of_getElem? hp)
    obtain ⟨a, ha, t1, t2, t3, t4⟩ := (h1.fr0 f3).at hp
    rw [ha]
    simp only [nn_some]
    refine ⟨⟨hx1, hlt⟩, rd_of (k := .slc) p.2.2.1 t3 (br_gt (fun _ => hQ _ f3) fun h200 => ?_)⟩
    have fd := (Fr.refl (S := F0) w3).drw (w3.drawn + 1)
    unfold dr
    generalize drw w3 (w3.drawn + 1) = w4 at *
    have c4 := c3.keep fd
    refine ⟨⟨hx1, hlt⟩, rd_of (k := .int .u64) (p.1 : Int) (t1.fr0 fd) ⟨⟨hx1, hlt⟩, rd_of (k := .int .i64) p.2.1 (t2.fr0 fd) ⟨⟨hx1, hlt⟩, rd_of (k := .int .u64) (p.1 : Int) (t1.fr0 fd) ⟨⟨hx1, hlt⟩, rd_of (k := .slc) p.2.2.1 (t3.fr0 fd) ?_⟩⟩⟩⟩
    have hlen := t4.len
    refine callP_of (block_spec (s := p.2.2.1) (t4.fr0 fd) b1 (by omega)) ?_
    rintro v w5 ⟨t, rfl, y5⟩
    refine ⟨t, rfl, (t2.fr0 fd).fr0 y5.fr, (t1.fr0 fd).fr0 y5.fr, ?_⟩
    refine callP_of ((c4.keep y5.fr).hear g1 (h := p.1) (who := p.2.1) (x := t) y5.by (by have := blockB_len p.1 p.2.2.2; omega) ⟨b2, b3⟩) ?_
    rintro v w6 ⟨rfl, c6, _⟩
    rw [w_i64 (by omega) (by omega)]
    refine ⟨_, rfl, hK _ _ ⟨by omega, by omega, _, c6, ?_⟩ (by dsimp only; omega)⟩
    rw [show (x + 1).toNat = x.toNat + 1 by omega]
    exact n3.hear st p.1 p.2.1 _
  · have n3 : Few 50 A := n3.mono (by omega)
    refine callP_of c3.heights ?_
    rintro v w4 ⟨c4, f4, s, d, rfl, hsl, hd, hs, hsf⟩
    refine ⟨s, rfl, ?_⟩
    have hA := c4.n
    have hdn : ∀ i : Int, 0 ≤ i → i < s.len → d i.toNat = ((d i.toNat).toNat : Int) := fun i hi hi2 => by
      have := hd i.toNat (by omega); omega
    refine ⟨fun u x w' => 0 ≤ x ∧ x ≤ s.len ∧ ∃ cs N, GB w4 w' u cs N ∧ Ch w1 w' C st A ∧ N.map (·.2) = (List.range x.toNat).map fun i => (believed st A (d i).toNat).getD [], fun _ x _ => (s.len - x).toNat,
      ⟨by omega, by omega, [], [], .nil w4, c4, by simp⟩, ?_⟩
    rintro u x w5 K2 ⟨hx1, hx2, cs, N, gb, c5, hN⟩ hK2
    have hs5 := hs.fr0 gb.lo.fr
    have hNl : N.length = x.toNat := by have := congrArg List.length hN; simpa using this
    refine br_lt (fun hlt => ?_) fun hge => ?_
    · refine ⟨⟨hx1, hlt⟩, hs5.rdN hsl hx1 hlt ?_⟩
      rw [hdn x hx1 hlt]
      refine callP_of (c5.bel n3 (by decide)) ?_
      rintro v w6 ⟨c6, f6, r, rfl, hr, hrf, _⟩
      refine ⟨r, _, rfl, ?_⟩
      have gb6 := gb.keep f6
      refine GB.push gb6 hr (fun c hc hu => ?_) (by omega) fun u' cs' w7 gb7 f7 _ => ?_
      · have h1 := hrf.ge hc
        have h2 := (gb.lt hu).2
        omega
      · rw [w_i64 (by omega) (by omega)]
        refine hK2 _ _ _ ⟨by omega, by omega, cs', _, gb7, ?_, ?_⟩ (by dsimp only; omega)
        · exact c4.keep gb7.lo.fr
        · rw [List.map_append, hN, show (x + 1).toNat = x.toNat + 1 by omega, List.range_succ, List.map_append]
          rfl
    · have hxe : x.toNat = A.length := by omega
      rw [hxe] at hN hNl
      refine callP_of (c5.forget (below := below)) ?_
      rintro v w6 ⟨rfl, c6, k6⟩
      refine ⟨_, rfl, ?_⟩
      refine callP_of c6.heights ?_
      rintro v w7 ⟨c7, f7, q, d', rfl, hq, _, _, _⟩
      refine ⟨q, rfl, ?_⟩
      have hfl : (forget A below).length ≤ A.length := List.length_filter_le _ _
      have k7 := k6.trans (Kp.of0 f7)
      have hs7 := k7.slc hs5
      have hu7 := k7.bs gb.bs
      have n7 : Few 50 (forget A below) := n3.forget below
      have hul := hu7.len
      refine br_ne (fun hne => absurd ?_ hne) fun _ => ?_
      · rw [w_i64 (by omega) (by omega), hq, hsl]; omega
      refine ⟨fun x w' => 0 ≤ x ∧ x ≤ s.len ∧ Ch w1 w' C st (forget A below) ∧ Fr F0 w7 w', fun x _ => (s.len - x).toNat, ⟨by omega, by omega, c7, .refl _⟩, ?_⟩
      rintro y w8 K3 ⟨hy1, hy2, c8, f8⟩ hK3
      refine br_lt (fun hlt => ?_) fun _ => hQ _ (f1.trans0 c8.fr)
      have hnext : ∀ w9, Ch w1 w9 C st (forget A below) → Fr F0 w8 w9 → K3 (IntKind.wrap .i64 (y + 1)) w9 := fun w9 c9 f9 => by
        rw [w_i64 (by omega) (by omega)]
        exact hK3 _ _ ⟨by omega, by omega, c9, f8.trans0 f9⟩ (by dsimp only; omega)
      refine ⟨⟨hy1, hlt⟩, (hs7.fr0 f8).rdN hsl hy1 hlt ?_⟩
      rw [hdn y hy1 hlt]
      refine callP_of (c8.bel n7 (by decide)) ?_
      rintro v w9 ⟨c9, f9, r, rfl, hr, _, hrl⟩
      refine ⟨r, _, rfl, ?_⟩
      have hd0 := hdn y hy1 hlt
      have f89 := f8.trans0 f9
      have hs9 := hs7.fr0 f89
      have hrl2 := hr.len
      refine ⟨⟨hy1, hlt⟩, hs9.rdN hsl hy1 hlt (br_lt (fun hlo => ?_) fun hhi => ?_)⟩
      · have e : believed st (forget A below) (d y.toNat).toNat = none := by rw [believed_forget, if_neg (by omega)]
        rw [e] at hrl2 ⊢
        refine br_false rfl (br_gt (fun h => absurd h (by simp at hrl2; omega)) fun _ => ?_)
        refine ⟨⟨hy1, hlt⟩, hs9.rdN hsl hy1 hlt (br_ge (fun h => absurd h (by omega)) fun _ => hnext _ c9 f9)⟩
      · refine ⟨⟨hy1, hlt⟩, hs9.rdN hsl hy1 hlt (br_ge (fun _ => ?_) fun h => absurd h (by omega))⟩
        have hu9 := hu7.fr0 f89
        refine ⟨⟨hy1, by omega⟩, hu9.rd hy1 (by omega) fun z l hz hbz => ?_⟩
        refine callP_of (Same_spec (s := r) (t := z) hr hbz (by omega)) ?_
        rintro v w10 ⟨rfl, f10⟩
        refine ⟨_, rfl, br_not (br_dec (fun _ => ?_) fun hne => absurd ?_ hne)⟩
        · exact hnext _ (c9.keep f10) (f9.trans0 f10)
        · have hz' : (N.map (·.2))[y.toNat]? = some l := by rw [List.getElem?_map, hz]; rfl
          rw [hN, List.getElem?_map, List.getElem?_range (by omega)] at hz'
          have hz' : (believed st A (d y.toNat).toNat).getD [] = l := by simpa using hz'
          rw [believed_forget, if_pos (by omega)]
          exact hz'
end Go.Proofs.YtpcgkfgppfjnlaaGreatDoor.V
namespace Go.Proofs.YtpcgkfgppfjnlaaGreatDoor.V
open Go Go.RowKit Go.ChangeShapes Go.WideShapes Go.Deep
variable {H : Type} {enc : TypeId × Value → H} {P : Program} {w : World}

theorem bulk_agg (parts : List (DataW H)) : Rows.uptoBulkAll parts + 1 ≤ Rows.uptoBulk (.agg parts) := by
  simp only [Rows.uptoBulk]; omega
theorem wf_i64 {n : Int} (h : (Lit.int .i64 n).wf = true) : -9223372036854775808 ≤ n ∧ n < 9223372036854775808 := by
  simp only [Lit.wf, Bool.and_eq_true, decide_eq_true_eq] at h
  have e1 : IntKind.min .i64 = -9223372036854775808 := rfl
  have e2 : IntKind.max .i64 = 9223372036854775807 := rfl
  omega
/-- a claim read -/
theorem cm_read {e : TypeId} {f0 f1 f2 : Field} {n : Nat} {cs : List Value} {y : DataW H × List MemPlace} {q : TypeId} (he : P.underlying e = some (.struct #[f0, f1, f2])) (ce : P.cellsOf e = 3)
    (t0 : P.underlying f0.type = some (.int .u64)) (t1 : P.underlying f1.type = some (.int .i64)) (t2 : P.underlying f2.type = some (.slice q)) (tq : P.underlying q = some (.int .u8)) (o0 : f0.offset = 0) (o1 : f1.offset = 1) (o2 : f2.offset = 2)
    (s0 : P.cellsOf f0.type = 1) (s1 : P.cellsOf f1.type = 1) (s2 : P.cellsOf f2.type = 1) (sq : P.cellsOf q = 1) (h : DataW.trod enc P w 0 (fun _ => true) true n e cs = some y) :
    ∃ p : Cm, cs = p.c ∧ p.1 < 18446744073709551616 ∧ (-9223372036854775808 ≤ p.2.1 ∧ p.2.1 < 9223372036854775808) ∧ By w p.2.2.1 p.2.2.2 ∧ p.2.2.2.length ≤ Rows.uptoBulk y.1 := by
  obtain ⟨xs, m, _, rfl, hl, hlen, hf⟩ := DataW.trod_struct he h
  rw [ce] at hl
  match cs, hl with
  | [v0, v1, v2], _ =>
    match xs, hlen with
    | [x0, x1, x2], _ =>
      have h0 := hf 0 f0 rfl
      have h1 := hf 1 f1 rfl
      have h2 := hf 2 f2 rfl
      rw [o0, s0] at h0
      rw [o1, s1] at h1
      rw [o2, s2] at h2
      obtain ⟨k0, e0, _, w0⟩ := DataW.trod_int t0 (x := x0) h0
      obtain ⟨k1, e1, _, w1⟩ := DataW.trod_int t1 (x := x1) h1
      obtain ⟨s, l, e2, hb, hbl⟩ := by_read t2 tq sq (x := x2) h2
      have a0 := wf_u64 w0
      have a1 := wf_i64 w1
      simp at e0 e1 e2
      refine ⟨(k0.toNat, k1, s, l), ?_, by simp only; omega, a1, hb, ?_⟩
      · rw [e0, e1, e2]
        simp only [Cm.c]
        rw [show ((k0.toNat : Nat) : Int) = k0 by omega]
      · have hb1 := bulk_part (d := x2.1) (l := [x0, x1, x2].map (·.1)) (by simp)
        have hb2 := bulk_agg ([x0, x1, x2].map (·.1))
        show l.length ≤ Rows.uptoBulk (DataW.agg _)
        omega
/-- claims read -/
theorem cs_read {t e : TypeId} {f0 f1 f2 : Field} {fuel : Nat} {cs : List Value} {x : DataW H × List MemPlace} {q : TypeId} (ht : P.underlying t = some (.slice e)) (he : P.underlying e = some (.struct #[f0, f1, f2])) (ce : P.cellsOf e = 3)
    (t0 : P.underlying f0.type = some (.int .u64)) (t1 : P.underlying f1.type = some (.int .i64)) (t2 : P.underlying f2.type = some (.slice q)) (tq : P.underlying q = some (.int .u8)) (o0 : f0.offset = 0) (o1 : f1.offset = 1) (o2 : f2.offset = 2)
    (s0 : P.cellsOf f0.type = 1) (s1 : P.cellsOf f1.type = 1) (s2 : P.cellsOf f2.type = 1) (sq : P.cellsOf q = 1) (h : DataW.trod enc P w 0 (fun _ => true) true fuel t cs = some x) :
    ∃ (s : Sl) (M : List Cm), cs = [s.v] ∧ Cs w s M ∧ M.length ≤ Rows.uptoBulk x.1 ∧ ∀ p ∈ M, p.1 < 18446744073709551616 ∧ (-9223372036854775808 ≤ p.2.1 ∧ p.2.1 < 9223372036854775808) ∧ p.2.2.2.length ≤ Rows.uptoBulk x.1 := by
  rcases open_slice ht h with ⟨rfl, rfl⟩ | ⟨a, len, cap, m, n, D, Pl, rfl, _, hl, _, hm, rfl, hx⟩
  · exact ⟨⟨none, 0, 0⟩, [], rfl, ⟨⟨rfl, Nat.le_refl _, rfl⟩, by simp⟩, Nat.zero_le _, by simp⟩
  · obtain rfl : m = cap := hm
    rw [ce] at hx
    obtain ⟨y, hy⟩ := choose_lt (n := m) (α := Cm) (p := fun i p => w.cells? 0 (a.add (i * 3)) 3 = some p.c ∧ p.1 < 18446744073709551616 ∧ (-9223372036854775808 ≤ p.2.1 ∧ p.2.1 < 9223372036854775808) ∧ By w p.2.2.1 p.2.2.2 ∧ p.2.2.2.length ≤ Rows.uptoBulk (D i)) fun i hi => by
      obtain ⟨cs', h1, h2⟩ := hx i hi
      obtain ⟨p, rfl, h3⟩ := cm_read he ce t0 t1 t2 tq o0 o1 o2 s0 s1 s2 sq h2
      exact ⟨p, h1, h3⟩
    have hb := bulk_slice ((List.range len).map D) ((List.range (m - len)).map fun j => D (len + j))
    have hb2 := bulk_len ((List.range len).map D)
    rw [List.length_map, List.length_range] at hb2
    have hbx : Rows.uptoBulk (DataW.slice ((List.range len).map D) ((List.range (m - len)).map fun j => D (len + j)), MemPlace.row a (m * P.cellsOf e) ++ (List.range m).flatMap Pl).1 = Rows.uptoBulk (DataW.slice ((List.range len).map D) ((List.range (m - len)).map fun j => D (len + j))) := rfl
    refine ⟨⟨some a, len, m⟩, (List.range len).map y, rfl, ⟨⟨by rw [clC_len]; simp, hl, fun hm0 => ?_⟩, fun p hp => ?_⟩, by rw [List.length_map, List.length_range, hbx]; omega, fun p hp => ?_⟩
    · have hm0 : m ≠ 0 := hm0
      refine at_of (n := m * 3) (by rw [clC_len, List.length_map, List.length_range]; omega) (fun j hj => ?_) (by omega)
      have hd : j / 3 < m := by omega
      have hcell := (World.cells?_some (hy (j / 3) hd).1).2.2 (j % 3) (Nat.mod_lt _ (by decide))
      rw [Go.Deep.add_add, show j / 3 * 3 + j % 3 = j by omega] at hcell
      have hc3 : (y (j / 3)).c.length = 3 := rfl
      have hlt : j % 3 < (y (j / 3)).c.length := by rw [hc3]; omega
      rw [List.getElem?_eq_getElem hlt] at hcell
      refine ⟨_, hcell, fun u hu => ?_⟩
      rcases Nat.lt_or_ge (j / 3) len with k | k
      · have hg : ((List.range len).map y)[j / 3]? = some (y (j / 3)) := by rw [List.getElem?_map, List.getElem?_range k]; rfl
        have := clC_get hg (o := j % 3) (Nat.mod_lt _ (by decide))
        rw [show j / 3 * 3 + j % 3 = j by omega, hu, List.getElem?_eq_getElem hlt] at this
        exact (Option.some.inj this).symm
      · rw [List.getElem?_eq_none (by rw [clC_len]; simp; omega)] at hu; simp at hu
    · obtain ⟨i, hi, rfl⟩ := List.mem_map.mp hp
      have hi := List.mem_range.mp hi
      exact (hy i (by omega)).2.2.2.1
    · obtain ⟨i, hi, rfl⟩ := List.mem_map.mp hp
      have hi := List.mem_range.mp hi
      obtain ⟨_, h1, h2, _, h3⟩ := hy i (by omega)
      refine ⟨h1, h2, ?_⟩
      have := bulk_part (l := (List.range len).map D) (List.mem_map.mpr ⟨i, List.mem_range.mpr hi, rfl⟩)
      rw [hbx]
      omega
/-- bools read -/
def blv (l : List Bool) : List Value := l.map Value.bool
theorem bools_read {t e : TypeId} {fuel : Nat} {cs : List Value} {x : DataW H × List MemPlace} (ht : P.underlying t = some (.slice e)) (he : P.underlying e = some .bool) (hc : P.cellsOf e = 1)
    (h : DataW.trod enc P w 0 (fun _ => true) true fuel t cs = some x) : ∃ (s : Sl) (l : List Bool), cs = [s.v] ∧ SlC w s 1 (blv l) ∧ l.length ≤ Rows.uptoBulk x.1 := by
  obtain ⟨s, l, h1, h2, h3, _⟩ := slice_read (f := Value.bool) (B := fun _ _ => True) ht hc (fun n v y hy => by
    obtain ⟨b, hk, _⟩ := DataW.trod_bool he hy
    simp at hk
    exact ⟨b, hk, trivial⟩) h
  exact ⟨s, l, h1, h2, h3⟩
end Go.Proofs.YtpcgkfgppfjnlaaGreatDoor.V
