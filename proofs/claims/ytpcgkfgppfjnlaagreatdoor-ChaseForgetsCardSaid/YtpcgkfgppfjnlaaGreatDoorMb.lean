/-
  THE DENOTATION's SOUNDNESS, part 5: regions in the text's order. | THE DENOTATION's SOUNDNESS, part 6: regions that draw their order. | THE DENOTATION's SOUNDNESS, part 7: drawn regions whole; code; calls. | THE DENOTATION's SOUNDNESS, part 8: code, and calls. | MEMORY: frames, blocks that a call owns, readings; the rules for the named predicates of the conditions (al, wr, rd, br, callP ..). | LOCAL MEMORY: the blocks that a call has at hand (new ones, and those it may turn), as a list; the rules of the conditions over it.
-/
import Derived.Test.YtpcgkfgppfjnlaaGreatDoorMa
import Derived.OrdersIn
import Derived.LoopNIn
import Derived.RangeFuncLeaves
import Derived.RangeFuncRecord
import Derived.Below
namespace Go.Proofs.YtpcgkfgppfjnlaaGreatDoor.V
open Go
variable {P : Program} {ds : List Nat}

theorem op_sound {ops : List Oper} {o : Oper} {ρ : Operand → Value} {w : World} {K : Value → World → Prop} (hρ : ∀ f, ρ (.func f) = .func (.func f) #[] #[]) (h : opDn P ops o ρ w K) : Eff P (execOp ρ o) w K := by
  unfold opDn at h
  split at h
  · obtain ⟨v, hK, hr⟩ := pure_sound h
    exact Eff.value (hr w) hK
  · obtain ⟨v, R, hK, hr, _⟩ := read_sound h
    exact Eff.value hr hK
  · exact eff_sound hρ h

/-- the marks of loops over functions -/
def mks (ds : List Nat) : List Deferred := ds.map fun D => { target := .collected D, args := #[] }
/-- a frame agrees with an environment -/
structure Ag (nt : Nat) (ds : List Nat) (ρ : Env) (a : Act) : Prop where
  size : a.tmps.size = nt
  defers : a.defers = mks ds
  val : ∀ t v, look ρ t = some v → a.tmps.getD t undef = v

theorem look_cons (s : Nat) (v : Value) (ρ : Env) (t : Nat) : look ((s, v) :: ρ) t = if s = t then some v else look ρ t := by
  simp only [look]
  by_cases h : s = t
  · subst h; simp
  · have : Nat.beq s t = false := by
      cases hb : Nat.beq s t
      · rfl
      · exact (h (Nat.eq_of_beq_eq_true hb)).elim
    simp [this, h]
theorem getD_put {a : Act} {nt d : Nat} {v : Value} (hs : a.tmps.size = nt) (hd : d < nt) (t : Nat) : (a.put (some d) v).tmps.getD t undef = if d = t then v else a.tmps.getD t undef := by
  simp only [Act.put, Array.getD_eq_getD_getElem?]
  by_cases h : d = t
  · subst h
    simp [hs, hd]
  · rw [Array.getElem?_setIfInBounds_ne h]
    simp [h]
theorem put_size {a : Act} {dst : Option Nat} {v : Value} : (a.put dst v).tmps.size = a.tmps.size := by
  cases dst <;> simp [Act.put]
theorem put_defers {a : Act} {dst : Option Nat} {v : Value} : (a.put dst v).defers = a.defers := by
  cases dst <;> simp [Act.put]
def dstOk (nt : Nat) (dst : Option Nat) : Prop := ∀ d, dst = some d → d < nt
theorem Ag.put {nt : Nat} {ρ : Env} {a : Act} (h : Ag nt ds ρ a) {dst : Option Nat} (hd : dstOk nt dst) (v : Value) : Ag nt ds (putE dst v ρ) (a.put dst v) := by
  refine ⟨by rw [put_size, h.size], by rw [put_defers, h.defers], ?_⟩
  intro t u hu
  cases dst with
  | none => simpa [Act.put] using h.val t u hu
  | some d =>
    rw [getD_put h.size (hd d rfl)]
    simp only [putE, look_cons] at hu
    by_cases hdt : d = t
    · simpa [hdt] using hu
    · simp only [hdt, if_false] at hu ⊢
      exact h.val t u hu
theorem Ag.eval {nt : Nat} {ρ : Env} {a : Act} (h : Ag nt ds ρ a) {x : Operand} (hx : defd ρ x = true) : evalO ρ x = a.eval x := by
  cases x with
  | tmp t =>
    simp only [defd, Option.isSome_iff_exists] at hx
    obtain ⟨v, hv⟩ := hx
    simp only [evalO, hv, Option.getD_some, Act.eval, h.val t v hv]
  | _ => rfl

theorem okOp_spec {nt : Nat} {ρ : Env} {o : Oper} (h : okOp nt ρ o = true) : (∀ x ∈ o.op.operands, defd ρ x = true) ∧ dstOk nt o.dst ∧ ∀ cs b, o.op ≠ .select cs b := by
  unfold okOp at h
  simp only [Bool.and_eq_true] at h
  obtain ⟨⟨h1, h2⟩, h3⟩ := h
  refine ⟨fun x hx => List.all_eq_true.1 h1 x (by simpa using hx), ?_, ?_⟩
  · intro d hd
    rw [hd] at h2
    simpa [Nat.blt_eq] using h2
  · intro cs b hb
    rw [hb] at h3
    simp at h3
theorem Ag.exec {nt : Nat} {ρ : Env} {a : Act} (h : Ag nt ds ρ a) {o : Oper} (ho : okOp nt ρ o = true) : execOp (evalO ρ) o = execOp a.eval o :=
  let ⟨h1, _, h3⟩ := okOp_spec ho
  execOp_congr o h3 fun x hx => h.eval (h1 x hx)

theorem undef_ne_bool (b : Bool) : undef ≠ .bool b := by intro h; cases h

/-- whether an operation is wanted, by an environment -/
theorem wanted_of {nt : Nat} {ρ : Env} {a : Act} (h : Ag nt ds ρ a) {ops : Array Oper} {o : Oper} {j d : Nat} {b t : Bool} (hg : o.guard = some (j, b)) (hd : (ops.toList[j]?).bind (·.dst) = some d) (hl : look ρ d = some (.bool t)) :
    Region.wanted o (yielded ops a.tmps) = (t == b) := by
  have hv := h.val d _ hl
  have hd' : (ops[j]?).bind (·.dst) = some d := by rw [← Array.getElem?_toList]; exact hd
  have ht : a.tmps[d]? = some (.bool t) := by
    rw [Array.getD_eq_getD_getElem?] at hv
    cases hq : a.tmps[d]? with
    | none => rw [hq] at hv; exact (undef_ne_bool t hv).elim
    | some x => rw [hq] at hv; simp at hv; rw [hv]
  simp only [Region.wanted, hg, yielded, hd', Option.bind_some, ht]
  cases t <;> cases b <;> rfl

/-- a guard whose operation was passed over -/
theorem wanted_undef {nt : Nat} {ρ : Env} {a : Act} (h : Ag nt ds ρ a) {ops : Array Oper} {o : Oper} {j d : Nat} {b : Bool} {vs : Array Value} (hg : o.guard = some (j, b)) (hd : (ops.toList[j]?).bind (·.dst) = some d) (hl : look ρ d = some (.tuple vs)) :
    Region.wanted o (yielded ops a.tmps) = false := by
  have hv := h.val d _ hl
  have hd' : (ops[j]?).bind (·.dst) = some d := by rw [← Array.getElem?_toList]; exact hd
  have hy : yielded ops a.tmps j = none := by
    simp only [yielded, hd', Option.bind_some]
    rw [Array.getD_eq_getD_getElem?] at hv
    cases hq : a.tmps[d]? with
    | none => rfl
    | some x => rw [hq] at hv; simp at hv; subst hv; rfl
  simp only [Region.wanted, hg, hy]
  rfl

/-- a guard parted on: the environment reads as it did, and the operation is wanted or not -/
theorem gd_sound {nt : Nat} {ρ : Env} {a : Act} (h : Ag nt ds ρ a) {ops : Array Oper} {o : Oper} {A B : Env → Prop} (hg : gdS ops o ρ fun ρ => gd ops o ρ A B) :
    ∃ ρ', (∀ s, look ρ' s = look ρ s) ∧ ((Region.wanted o (yielded ops a.tmps) = true ∧ A ρ') ∨ (Region.wanted o (yielded ops a.tmps) = false ∧ B ρ')) := by
  unfold gdS at hg
  split at hg
  · rename_i hn
    simp only [gd, hn] at hg
    exact ⟨ρ, fun _ => rfl, .inl ⟨by simp [Region.wanted, hn], hg⟩⟩
  · rename_i j b hgd
    split at hg
    · rename_i d hd
      split at hg
      · rename_i t hl
        have hw := wanted_of h hgd hd hl
        have same : ∀ u : Bool, t = u → ∀ s, look ((d, .bool u) :: ρ) s = look ρ s := by
          rintro u rfl s
          rw [look_cons]
          split
          · rename_i hds; subst hds; exact hl.symm
          · rfl
        rcases br_cases hg with ⟨rfl, hg⟩ | ⟨rfl, hg⟩
        · refine ⟨_, same true rfl, ?_⟩
          simp only [gd, hgd, hd, look_cons, if_true] at hg
          cases b
          · exact .inr ⟨by rw [hw]; rfl, hg⟩
          · exact .inl ⟨by rw [hw]; rfl, hg⟩
        · refine ⟨_, same false rfl, ?_⟩
          simp only [gd, hgd, hd, look_cons, if_true] at hg
          cases b
          · exact .inl ⟨by rw [hw]; rfl, hg⟩
          · exact .inr ⟨by rw [hw]; rfl, hg⟩
      · rename_i vs hl
        refine ⟨ρ, fun _ => rfl, .inr ⟨wanted_undef h hgd hd hl, ?_⟩⟩
        simpa only [gd, hgd, hd, hl] using hg
      · exact hg.elim
    · exact hg.elim
theorem Ag.same {nt : Nat} {ρ ρ' : Env} {a : Act} (h : Ag nt ds ρ a) (hs : ∀ s, look ρ' s = look ρ s) : Ag nt ds ρ' a :=
  ⟨h.size, h.defers, fun t v ht => h.val t v (by rw [← hs]; exact ht)⟩

theorem Eff.upon {o : Oper} {a : Act} {w : World} {K : Value → World → Prop} {next : Act → World → Prop} {Q : Exit → Act → World → Prop} (h : Eff P (execOp a.eval o) w K)
    (hn : ∀ v w', K v w' → next (a.put o.dst v) w') : o.wp P a w next Q := by
  unfold Oper.wp
  unfold Eff at h
  generalize (execOp a.eval o).run P w = r at h
  cases r with
  | halt x w' => exact h.elim
  | ok x w' =>
    cases x <;> simp only at h <;> first
      | exact h.elim
      | exact hn _ _ h
      | exact Calls.mono h fun e w'' ⟨v, he, hK⟩ => by subst he; exact hn _ _ hK

/-- the fence that lets all in, in a round or not -/
abbrev Wr (r : Option Nat) : Fence := { Fence.wide with round := r }
theorem Eff.uponIn {r : Option Nat} {n : Nat} {o : Oper} {a : Act} {w : World} {K : Value → World → Prop} {next : Act → World → Prop} {Q : Exit → Act → World → Prop} (h : Eff P (execOp a.eval o) w K)
    (hn : ∀ v w', K v w' → next (a.put o.dst v) w') : o.wpIn (Wr r) n P a w next Q := by
  refine ⟨fun _ _ => trivial, ?_⟩
  have hnd : ∀ c, o.op ≠ .defer c := by
    intro c hc
    unfold Eff execOp at h
    simp only [hc, Sem.run_bind] at h
    cases hr : (resolve a.eval c o.type).run P w with
    | halt x w' => rw [hr] at h; exact h
    | ok x w' => rw [hr] at h; exact h
  show o.uponIn (Wr r) n P a next Q ((o.semAt r a.eval).run P w)
  rw [Oper.semAt_eq r _ o hnd]
  unfold Eff at h
  generalize (execOp a.eval o).run P w = r at h
  cases r with
  | halt x w' => exact h.elim
  | ok x w' =>
    cases x <;> simp only at h <;> first
      | exact h.elim
      | exact hn _ _ h
      | exact ⟨fun h => by simp [Fence.wide] at h, callsIn_wide.2 (Calls.mono h fun e w'' ⟨v, he, hK⟩ => by subst he; exact hn _ _ hK)⟩
theorem yld_run {a : Act} {o : Oper} {l : Nat} {args : Array Value} (h : yldOf a.eval o = some (l, args)) (w : World) : (execOp a.eval o).run P w = (Instr.yield l args).run P w := by
  unfold yldOf at h
  split at h
  · rename_i c hc
    split at h
    · rename_i x hx
      split at h
      · rename_i l' first cap hv
        split at h
        · rename_i h1 h2
          obtain ⟨rfl, rfl⟩ : l' = l ∧ c.args.map a.eval = args := by simpa using h
          obtain rfl : first = #[] := by simpa using h1
          obtain rfl : cap = #[] := by simpa using h2
          unfold execOp
          simp only [hc, resolve, hx, hv, Deferred.ofValue]
          simp [invoke]
        · cases h
      · cases h
    · cases h
  · cases h
theorem round_any {r : Option Nat} {m n : Nat} {l : Nat} {f : FuncId} {tmps : Array Value} {assign body : Code} {w : World} {R : Ending → World → Prop} (h : RoundIn Fence.wide m P l f tmps assign body w R) : RoundIn (Wr r) n P l f tmps assign body w R :=
  ⟨trivial, fun c cs _ => h.2 c cs (room_wide _)⟩
theorem calls_any {r : Option Nat} {n : Nat} {f : FuncId} {args : Array Value} {w : World} {R : Ending → World → Prop} (h : Calls P f args w R) : CallsIn (Wr r) n P f args w R :=
  callsIn_wide (n := n).2 h
theorem yld_upon {r : Option Nat} {n : Nat} {o : Oper} {a : Act} {w : World} {l : Nat} {args : Array Value} {K : Value → World → Prop} {next : Act → World → Prop} {Q : Exit → Act → World → Prop} (hy : yldOf a.eval o = some (l, args)) (h : yldP P l args w K)
    (hn : ∀ v w', K v w' → next (a.put o.dst v) w') : o.wpIn (Wr r) n P a w next Q := by
  refine ⟨fun _ _ => trivial, ?_⟩
  have hnd : ∀ c, o.op ≠ .defer c := by
    intro c hc
    unfold yldOf at hy
    rw [hc] at hy
    cases hy
  show o.uponIn (Wr r) n P a next Q ((o.semAt r a.eval).run P w)
  rw [Oper.semAt_eq r _ o hnd, yld_run hy]
  obtain ⟨fn, tmps, assign, body, hr, hR⟩ := h
  rw [hr]
  exact ⟨fun h => by simp [Fence.wide] at h, round_any (hR.mono fun e w'' ⟨v, he, hK⟩ => by subst he; exact hn _ _ hK)⟩
theorem yldOf_exec {nt : Nat} {ρ : Env} {a : Act} (h : Ag nt ds ρ a) {o : Oper} (ho : okOp nt ρ o = true) : yldOf (evalO ρ) o = yldOf a.eval o := by
  have hd := (okOp_spec ho).1
  unfold yldOf
  cases hop : o.op <;> try rfl
  rename_i c
  simp only
  cases hc : c.callee <;> try rfl
  rename_i x
  simp only
  have hargs : c.args.map (evalO ρ) = c.args.map a.eval := by
    apply Array.map_congr_left
    intro y hy
    exact h.eval (hd y (by rw [hop]; simp [Op.operands, Call.operands, hy]))
  have hx : evalO ρ x = a.eval x := h.eval (hd x (by rw [hop]; simp [Op.operands, Call.operands, hc]))
  rw [hargs, hx]

theorem put_other {a : Act} {dst : Option Nat} {v : Value} {s : Nat} (h : dst ≠ some s) : (a.put dst v).tmps.getD s undef = a.tmps.getD s undef := by
  cases dst with
  | none => rfl
  | some d =>
    have hd : d ≠ s := fun e => h (by rw [e])
    simp only [Act.put, Array.getD_eq_getD_getElem?]
    rw [Array.getElem?_setIfInBounds_ne hd]
theorem noWO_dst {l : List Oper} {s : Nat} (h : noWO l s = true) {o : Oper} (ho : o ∈ l) : o.dst ≠ some s := by
  have := List.all_eq_true.1 h o ho
  intro hd
  rw [hd] at this
  simp at this
/-- the slots that a code does not write -/
def Keep (W : Nat → Bool) (a a' : Act) : Prop := ∀ s, W s = true → a'.tmps.getD s undef = a.tmps.getD s undef

theorem seq_sound {r : Option Nat} {n : Nat} {nt : Nat} {ops : Array Oper} {Q : Exit → Act → World → Prop} : ∀ (l : List Oper) (ρ : Env) (w : World) (a : Act) (K : Env → World → Prop), seqDn P nt ops l ρ w K → Ag nt ds ρ a →
    (∀ ρ' a' w', Ag nt ds ρ' a' → Keep (noWO l) a a' → K ρ' w' → Q .normal a' w') → wpListIn (Wr r) n P ops Q l a w
  | [], ρ, w, a, K, h, ha, hQ => hQ _ _ _ ha (fun _ _ => rfl) h
  | o :: rest, ρ, w, a, K, h, ha, hQ => by
    simp only [seqDn] at h
    obtain ⟨ρ', hs, h⟩ := gd_sound ha h
    have ha' := ha.same hs
    have hkeep : ∀ v a', Keep (noWO rest) (a.put o.dst v) a' → Keep (noWO (o :: rest)) a a' := by
      intro v a' hk s hs
      have h1 : noWO rest s = true := by
        simp only [noWO, List.all_cons, Bool.and_eq_true] at hs
        exact hs.2
      rw [hk s h1]
      exact put_other (noWO_dst hs (by simp))
    unfold wpListIn
    rcases h with ⟨hw, h⟩ | ⟨hw, h⟩
    · rw [hw, if_pos rfl]
      cases hok : okOp nt ρ' o with
      | false => simp [hok] at h
      | true =>
        simp only [hok, cond_true] at h
        cases hy : yldOf (evalO ρ') o with
        | some p =>
          obtain ⟨l, args⟩ := p
          rw [hy] at h
          simp only at h
          rw [yldOf_exec ha' hok] at hy
          refine yld_upon hy h fun v w' hK => ?_
          exact seq_sound rest _ _ _ _ (dcR_sound hK) (ha'.put (okOp_spec hok).2.1 v) fun ρ'' a'' w'' h1 h2 h3 => hQ ρ'' a'' w'' h1 (hkeep v a'' h2) h3
        | none =>
        rw [hy] at h
        simp only at h
        have he := op_sound (fun _ => rfl) h
        rw [ha'.exec hok] at he
        refine he.uponIn fun v w' hK => ?_
        exact seq_sound rest _ _ _ _ hK (ha'.put (okOp_spec hok).2.1 v) fun ρ'' a'' w'' h1 h2 h3 => hQ ρ'' a'' w'' h1 (hkeep v a'' h2) h3
    · rw [hw, if_neg (by simp)]
      cases hok : okOp nt ρ' o with
      | false => simp [hok] at h
      | true =>
        simp only [hok, cond_true] at h
        refine ⟨fun _ _ => trivial, ?_⟩
        exact seq_sound rest _ _ _ _ h (ha'.put (okOp_spec hok).2.1 _) fun ρ'' a'' w'' h1 h2 h3 => hQ ρ'' a'' w'' h1 (hkeep _ a'' h2) h3
end Go.Proofs.YtpcgkfgppfjnlaaGreatDoor.V
namespace Go.Proofs.YtpcgkfgppfjnlaaGreatDoor.V
open Go
variable {P : Program}

theorem hasN_iff {l : List Nat} {i : Nat} : hasN l i = true ↔ i ∈ l := by
  unfold hasN
  rw [List.any_eq_true]
  constructor
  · rintro ⟨x, hx, he⟩
    have := Nat.eq_of_beq_eq_true he
    subst this; exact hx
  · intro h; exact ⟨i, h, by simp⟩

/-- all of a set that is closed under 'must come ahead' -/
def Closed (O : List Oper) (S : Nat → Prop) : Prop := ∀ i o, O[i]? = some o → S i → ∀ k ∈ predsO o, S k
theorem reach_closed {O : List Oper} {S : Nat → Prop} (hS : Closed O S) : ∀ (n i : Nat) (o : Oper), O[i]? = some o → (∀ k ∈ predsO o, S k) → ∀ k ∈ reachO O n i, S k
  | 0, _, _, _, _, k, hk => by simp [reachO] at hk
  | n + 1, i, o, ho, hp, k, hk => by
    simp only [reachO, ho, List.mem_append, List.mem_flatMap] at hk
    rcases hk with hk | ⟨j, hj, hk⟩
    · exact hp k hk
    · cases hoj : O[j]? with
      | none => cases n <;> simp [reachO, hoj] at hk
      | some oj => exact reach_closed hS n j oj hoj (fun k hk => hS j oj hoj (hp j hj) k hk) k hk

def names (O : List Oper) (o : Oper) (s : Nat) : Prop := Operand.tmp s ∈ o.op.operands ∨ ∃ g b, o.guard = some (g, b) ∧ (O[g]?).bind (·.dst) = some s
theorem apart_spec {O : List Oper} (h : apartO O = true) {i j : Nat} {oi oj : Oper} (hi : O[i]? = some oi) (hj : O[j]? = some oj) (hij : i ≠ j) {d : Nat} (hd : oi.dst = some d) :
    oj.dst ≠ some d ∧ (names O oj d → i ∈ reachO O O.length j ∨ j ∈ reachO O O.length i) := by
  unfold apartO at h
  simp only [List.all_eq_true] at h
  have m1 : (oi, i) ∈ O.zipIdx := by
    rw [List.mem_iff_getElem?]
    exact ⟨i, by simp [hi]⟩
  have m2 : (oj, j) ∈ O.zipIdx := by
    rw [List.mem_iff_getElem?]
    exact ⟨j, by simp [hj]⟩
  have h1 := h _ m1
  simp only [hd, List.all_eq_true] at h1
  have h2 := h1 _ m2
  simp only [Bool.or_eq_true, Bool.and_eq_true, hasN_iff] at h2
  rcases h2 with h2 | ⟨h2, h3⟩
  · exact (hij (Nat.eq_of_beq_eq_true h2)).elim
  · refine ⟨by simpa using h2, fun hn => ?_⟩
    rcases h3 with (h3 | h3) | h3
    · exfalso
      simp only [Bool.not_eq_true', Bool.or_eq_false_iff] at h3
      rcases hn with hn | ⟨g, b, hg, hgd⟩
      · have := List.any_eq_false.1 h3.1 (Operand.tmp d) (by simpa using hn)
        simp at this
      · have := h3.2
        simp only [hg] at this
        cases hog : O[g]? with
        | none => simp [hog] at hgd
        | some og =>
          simp [hog] at hgd
          simp [hog, hgd] at this
    · exact .inl h3
    · exact .inr h3

def lst (l : Array Bool) (i : Nat) : Prop := l.getD i false = true

/-- whether an operation is wanted, as its guard reads -/
def GdU (O : List Oper) (o : Oper) (ρ : Env) (u : Bool) : Prop :=
  match o.guard with
  | none => u = true
  | some (g, b) => (∃ d t, (O[g]?).bind (·.dst) = some d ∧ look ρ d = some (.bool t) ∧ u = (t == b)) ∨ (∃ d vs, (O[g]?).bind (·.dst) = some d ∧ look ρ d = some (.tuple vs) ∧ u = false)
theorem gd_split {ops : Array Oper} {o : Oper} {ρ : Env} {A B : Env → Prop} (hg : gdS ops o ρ fun ρ => gd ops o ρ A B) :
    ∃ ρ' u, (∀ s, look ρ' s = look ρ s) ∧ GdU ops.toList o ρ u ∧ ((u = true ∧ A ρ') ∨ (u = false ∧ B ρ')) := by
  unfold gdS at hg
  split at hg
  · rename_i hn
    simp only [gd, hn] at hg
    exact ⟨ρ, true, fun _ => rfl, by simp [GdU, hn], .inl ⟨rfl, hg⟩⟩
  · rename_i j b hgd
    split at hg
    · rename_i d hd
      split at hg
      · rename_i t hl
        have same : ∀ u : Bool, t = u → ∀ s, look ((d, .bool u) :: ρ) s = look ρ s := by
          rintro u rfl s
          rw [look_cons]
          split
          · rename_i hds; subst hds; exact hl.symm
          · rfl
        have hu : GdU ops.toList o ρ (t == b) := by simp only [GdU, hgd]; exact .inl ⟨d, t, hd, hl, rfl⟩
        rcases br_cases hg with ⟨rfl, hg⟩ | ⟨rfl, hg⟩
        · refine ⟨_, _, same true rfl, hu, ?_⟩
          simp only [gd, hgd, hd, look_cons, if_true] at hg
          cases b
          · exact .inr ⟨rfl, hg⟩
          · exact .inl ⟨rfl, hg⟩
        · refine ⟨_, _, same false rfl, hu, ?_⟩
          simp only [gd, hgd, hd, look_cons, if_true] at hg
          cases b
          · exact .inl ⟨rfl, hg⟩
          · exact .inr ⟨rfl, hg⟩
      · rename_i vs hl
        refine ⟨ρ, false, fun _ => rfl, ?_, .inr ⟨rfl, ?_⟩⟩
        · unfold GdU; rw [hgd]; exact .inr ⟨d, vs, hd, hl, rfl⟩
        · simpa only [gd, hgd, hd, hl] using hg
      · exact hg.elim
    · exact hg.elim
/-- the frame's own word on it -/
theorem GdU.wanted {ops : Array Oper} {o : Oper} {ρ : Env} {u : Bool} {a : Act} (h : GdU ops.toList o ρ u) (ha : ∀ s v, names ops.toList o s → look ρ s = some v → a.tmps.getD s undef = v) :
    Region.wanted o (yielded ops a.tmps) = u := by
  unfold GdU at h
  cases hg : o.guard with
  | none => rw [hg] at h; simp [Region.wanted, hg, h]
  | some x =>
    obtain ⟨g, b⟩ := x
    rw [hg] at h
    have hd' : ∀ d, (ops.toList[g]?).bind (·.dst) = some d → (ops[g]?).bind (·.dst) = some d := fun d hd => by rw [← Array.getElem?_toList]; exact hd
    rcases h with ⟨d, t, hd, hl, rfl⟩ | ⟨d, vs, hd, hl, rfl⟩
    · have hv := ha d _ (.inr ⟨g, b, hg, hd⟩) hl
      have ht : a.tmps[d]? = some (.bool t) := by
        rw [Array.getD_eq_getD_getElem?] at hv
        cases hq : a.tmps[d]? with
        | none => rw [hq] at hv; exact (undef_ne_bool t hv).elim
        | some x => rw [hq] at hv; simp at hv; rw [hv]
      simp only [Region.wanted, hg, yielded, hd' d hd, Option.bind_some, ht]
      cases t <;> cases b <;> rfl
    · have hv := ha d _ (.inr ⟨g, b, hg, hd⟩) hl
      have hy : yielded ops a.tmps g = none := by
        simp only [yielded, hd' d hd, Option.bind_some]
        rw [Array.getD_eq_getD_getElem?] at hv
        cases hq : a.tmps[d]? with
        | none => rfl
        | some x => rw [hq] at hv; simp at hv; subst hv; rfl
      simp only [Region.wanted, hg, hy]
      rfl
theorem exec_named {O : List Oper} {o : Oper} {ρ : Env} {a : Act} (hd : ∀ x ∈ o.op.operands, defd ρ x = true) (hsel : ∀ cs b, o.op ≠ .select cs b)
    (ha : ∀ s v, names O o s → look ρ s = some v → a.tmps.getD s undef = v) : execOp (evalO ρ) o = execOp a.eval o := by
  refine execOp_congr o hsel fun x hx => ?_
  have hdx := hd x hx
  cases x with
  | tmp t =>
    simp only [defd, Option.isSome_iff_exists] at hdx
    obtain ⟨v, hv⟩ := hdx
    simp only [evalO, hv, Option.getD_some, Act.eval, ha t v (.inl hx) hv]
  | _ => rfl

/-- how an operation that was taken early may still run -/
def Late (P : Program) (O : List Oper) (ρ0 ρ : Env) (F : List (Nat × (World → Prop))) (w : World) (i : Nat) (o : Oper) : Prop :=
  ∃ η : Env, (∀ x ∈ o.op.operands, defd η x = true) ∧ (∀ cs b, o.op ≠ .select cs b) ∧
    (∀ s, names O o s → ((∃ k ok, O[k]? = some ok ∧ ok.dst = some s ∧ k ∈ reachO O O.length i) ∧ look η s = look ρ s) ∨
      ((∀ k ok, O[k]? = some ok → ok.dst = some s → k ∉ reachO O O.length i) ∧ look η s = look ρ0 s)) ∧
    ∃ (u : Bool) (v : Value), (∀ d, o.dst = some d → look ρ d = some v) ∧
      GdU O o η u ∧
      (u = false → v = undef) ∧
      (u = true → (∀ w', (execOp (evalO η) o).run P w' = .ok (.value v) w') ∨
        ((execOp (evalO η) o).run P w = .ok (.value v) w ∧ ∃ R, (i, R) ∈ F ∧ ∀ w', R w' → (execOp (evalO η) o).run P w' = .ok (.value v) w'))

/-- listed newest first, each behind all that must come ahead of it -/
def Ordered (O : List Oper) : List Nat → Prop
  | [] => True
  | i :: L => (∃ o, O[i]? = some o ∧ ∀ k ∈ predsO o, k ∈ L) ∧ Ordered O L
theorem Ordered.closed {O : List Oper} : ∀ {L : List Nat}, Ordered O L → Closed O (· ∈ L)
  | [], _, _, _, _, h => by cases h
  | j :: L, ⟨⟨oj, hoj, hp⟩, hL⟩, i, o, ho, hi => by
    intro k hk
    rcases List.mem_cons.1 hi with rfl | hi
    · rw [hoj] at ho
      obtain rfl := Option.some.inj ho
      exact List.mem_cons_of_mem _ (hp k hk)
    · exact List.mem_cons_of_mem _ (hL.closed i o ho hi k hk)
theorem Ordered.lt {O : List Oper} : ∀ {L : List Nat}, Ordered O L → ∀ i ∈ L, ∃ o, O[i]? = some o
  | j :: L, ⟨⟨oj, hoj, _⟩, hL⟩, i, hi => by
    rcases List.mem_cons.1 hi with rfl | hi
    · exact ⟨oj, hoj⟩
    · exact hL.lt i hi
theorem Ordered.first {O : List Oper} {D : Nat → Prop} : ∀ {L : List Nat}, Ordered O L → (∃ i ∈ L, ¬ D i) → ∃ i ∈ L, ¬ D i ∧ ∃ o, O[i]? = some o ∧ ∀ k ∈ predsO o, D k
  | [], _, ⟨_, h, _⟩ => by cases h
  | j :: L, ⟨⟨oj, hoj, hp⟩, hL⟩, ⟨i, hi, hd⟩ => by
    by_cases hex : ∃ i ∈ L, ¬ D i
    · obtain ⟨x, hx, h⟩ := hL.first hex
      exact ⟨x, List.mem_cons_of_mem _ hx, h⟩
    · have hall : ∀ k ∈ L, D k := fun k hk => Classical.byContradiction fun hn => hex ⟨k, hk, hn⟩
      refine ⟨j, by simp, ?_, oj, hoj, fun k hk => hall k (hp k hk)⟩
      rcases List.mem_cons.1 hi with rfl | hi
      · exact hd
      · exact (hd (hall i hi)).elim

structure Sim (P : Program) (nt : Nat) (O : List Oper) (ρ0 : Env) (a0 : Act) (l : Array Bool) (a : Act) (L : List Nat) (ρ : Env) (w : World) (F : List (Nat × (World → Prop))) : Prop where
  size : a.tmps.size = nt
  defers : a.defers = a0.defers
  lsz : l.size = O.length
  sub : ∀ i, lst l i → i ∈ L
  dcl : Closed O (lst l)
  ord : Ordered O L
  c1 : ∀ d, (∀ k ok, O[k]? = some ok → ok.dst = some d → k ∉ L) → look ρ d = look ρ0 d
  c2 : ∀ k ok d, O[k]? = some ok → ok.dst = some d → k ∈ L → (look ρ d).isSome = true
  s1 : ∀ k ok d, O[k]? = some ok → ok.dst = some d → lst l k → look ρ d = some (a.tmps.getD d undef)
  s2 : ∀ d, (∀ k ok, O[k]? = some ok → ok.dst = some d → ¬ lst l k) → ∀ v, look ρ0 d = some v → a.tmps.getD d undef = v
  s3 : ∀ d, (∀ k ok, O[k]? = some ok → ok.dst = some d → ¬ lst l k) → a.tmps.getD d undef = a0.tmps.getD d undef
  dsts : ∀ k ok d, O[k]? = some ok → ok.dst = some d → k ∈ L → d < nt
  late : ∀ i o, O[i]? = some o → i ∈ L → ¬ lst l i → Late P O ρ0 ρ F w i o

/-- what the frame holds at a slot that an operation names which is ready there -/
theorem Sim.named {nt : Nat} {O : List Oper} {ρ0 : Env} {a0 : Act} {l : Array Bool} {a : Act} {L : List Nat} {ρ : Env} {w : World} {F : List (Nat × (World → Prop))} (h : Sim P nt O ρ0 a0 l a L ρ w F) (hap : apartO O = true)
    {i : Nat} {o : Oper} (ho : O[i]? = some o) (hi : ¬ lst l i) (hp : ∀ k ∈ predsO o, lst l k) {s : Nat} (hs : names O o s) :
    ((∃ k ok, O[k]? = some ok ∧ ok.dst = some s ∧ k ∈ reachO O O.length i) → look ρ s = some (a.tmps.getD s undef)) ∧
    ((∀ k ok, O[k]? = some ok → ok.dst = some s → k ∉ reachO O O.length i) → ∀ v, look ρ0 s = some v → a.tmps.getD s undef = v) := by
  constructor
  · rintro ⟨k, ok, hk, hd, hr⟩
    exact h.s1 k ok s hk hd (reach_closed h.dcl _ i o ho hp k hr)
  · intro hno v hv
    refine h.s2 s (fun k ok hk hd hl => ?_) v hv
    by_cases hki : k = i
    · subst hki; exact hi hl
    · rcases (apart_spec hap hk ho hki hd).2 hs with h1 | h1
      · exact hno k ok hk hd h1
      · exact hi (reach_closed h.dcl _ k ok hk (fun j hj => h.dcl k ok hk hl j hj) i h1)
/-- what the environment holds at a slot that an operation names which comes next there -/
theorem Sim.namedC {nt : Nat} {O : List Oper} {ρ0 : Env} {a0 : Act} {l : Array Bool} {a : Act} {L : List Nat} {ρ : Env} {w : World} {F : List (Nat × (World → Prop))} (h : Sim P nt O ρ0 a0 l a L ρ w F) (hap : apartO O = true)
    {i : Nat} {o : Oper} (ho : O[i]? = some o) (hi : i ∉ L) {s : Nat} (hs : names O o s) 
    (hno : ∀ k ok, O[k]? = some ok → ok.dst = some s → k ∉ reachO O O.length i) : look ρ s = look ρ0 s := by
  refine h.c1 s fun k ok hk hd hl => ?_
  by_cases hki : k = i
  · subst hki; exact hi hl
  · rcases (apart_spec hap hk ho hki hd).2 hs with h1 | h1
    · exact hno k ok hk hd h1
    · exact hi (reach_closed h.ord.closed _ k ok hk (fun j hj => h.ord.closed k ok hk hl j hj) i h1)

/-- one more taken early -/
theorem Sim.early {nt : Nat} {O : List Oper} {ρ0 : Env} {a0 : Act} {l : Array Bool} {a : Act} {L : List Nat} {ρ : Env} {w : World} {F : List (Nat × (World → Prop))} (h : Sim P nt O ρ0 a0 l a L ρ w F) (hap : apartO O = true)
    {j : Nat} {o : Oper} (ho : O[j]? = some o) (hj : j ∉ L) (hp : ∀ k ∈ predsO o, k ∈ L) (hok : okOp nt ρ o = true) {ρ1 : Env} (hs : ∀ s, look ρ1 s = look ρ s) {u : Bool} (hu : GdU O o ρ u)
    {v : Value} {F' : List (Nat × (World → Prop))} (hF : ∀ x ∈ F, x ∈ F') (hv : u = false → v = undef)
    (hr : u = true → (∀ w', (execOp (evalO ρ1) o).run P w' = .ok (.value v) w') ∨
        ((execOp (evalO ρ1) o).run P w = .ok (.value v) w ∧ ∃ R, (j, R) ∈ F' ∧ ∀ w', R w' → (execOp (evalO ρ1) o).run P w' = .ok (.value v) w')) :
    Sim P nt O ρ0 a0 l a (j :: L) (putE o.dst v ρ1) w F' := by
  obtain ⟨hd, hdst, hsel⟩ := okOp_spec hok
  have hrL : ∀ k ∈ reachO O O.length j, k ∈ L := reach_closed h.ord.closed _ j o ho hp
  -- what another's slot reads
  have other : ∀ k ok s, O[k]? = some ok → ok.dst = some s → k ≠ j → look (putE o.dst v ρ1) s = look ρ s := by
    intro k ok s hk hks hkj
    cases hdd : o.dst with
    | none => exact hs s
    | some d =>
      have hne : d ≠ s := by
        rintro rfl
        exact (apart_spec hap hk ho hkj hks).1 hdd
      simp only [putE, look_cons, hne, if_false]
      exact hs s
  refine ⟨h.size, h.defers, h.lsz, fun i hi => List.mem_cons_of_mem _ (h.sub i hi), h.dcl, ⟨⟨o, ho, hp⟩, h.ord⟩, ?_, ?_, ?_, h.s2, h.s3, ?_, ?_⟩
  · intro d hno
    have hjd : o.dst ≠ some d := fun hd => hno j o ho hd (by simp)
    have hρ : look (putE o.dst v ρ1) d = look ρ d := by
      cases hdd : o.dst with
      | none => exact hs d
      | some e =>
        have hne : e ≠ d := by rintro rfl; exact hjd hdd
        simp only [putE, look_cons, hne, if_false]
        exact hs d
    rw [hρ]
    exact h.c1 d fun k ok hk hkd hkL => hno k ok hk hkd (List.mem_cons_of_mem _ hkL)
  · intro k ok d hk hkd hkL
    by_cases hkj : k = j
    · subst hkj
      rw [ho] at hk
      obtain rfl := Option.some.inj hk
      simp [hkd, putE, look_cons]
    · rw [other k ok d hk hkd hkj]
      exact h.c2 k ok d hk hkd ((List.mem_cons.1 hkL).resolve_left hkj)
  · intro k ok d hk hkd hl
    have hkL := h.sub k hl
    have hkj : k ≠ j := fun e => hj (e ▸ hkL)
    rw [other k ok d hk hkd hkj]
    exact h.s1 k ok d hk hkd hl
  · intro k ok d hk hkd hkL
    by_cases hkj : k = j
    · subst hkj
      rw [ho] at hk
      obtain rfl := Option.some.inj hk
      exact hdst d hkd
    · exact h.dsts k ok d hk hkd ((List.mem_cons.1 hkL).resolve_left hkj)
  · intro i oi hoi hiL hil
    by_cases hij : i = j
    · subst hij
      rw [ho] at hoi
      obtain rfl := Option.some.inj hoi
      refine ⟨ρ1, ?_, hsel, ?_, u, v, ?_, ?_, hv, hr⟩
      · intro x hx
        have := hd x hx
        cases x with
        | tmp t => simpa [defd, hs] using this
        | _ => rfl
      · intro s hn
        by_cases hex : ∃ k ok, O[k]? = some ok ∧ ok.dst = some s ∧ k ∈ reachO O O.length i
        · refine .inl ⟨hex, ?_⟩
          obtain ⟨k, ok, hk, hks, hkr⟩ := hex
          have hkj : k ≠ i := fun e => hj (e ▸ hrL k hkr)
          rw [other k ok s hk hks hkj, hs]
        · have hno : ∀ k ok, O[k]? = some ok → ok.dst = some s → k ∉ reachO O O.length i := fun k ok hk hks hkr => hex ⟨k, ok, hk, hks, hkr⟩
          exact .inr ⟨hno, by rw [hs]; exact h.namedC hap ho hj hn hno⟩
      · intro d hdd
        simp [hdd, putE, look_cons]
      · unfold GdU at hu ⊢
        cases hg : o.guard with
        | none => rw [hg] at hu; exact hu
        | some x =>
          rw [hg] at hu
          rcases hu with ⟨d, t, h1, h2, h3⟩ | ⟨d, t, h1, h2, h3⟩
          · exact .inl ⟨d, t, h1, by rw [hs]; exact h2, h3⟩
          · exact .inr ⟨d, t, h1, by rw [hs]; exact h2, h3⟩
    · have hiL' := (List.mem_cons.1 hiL).resolve_left hij
      obtain ⟨η, h1, h2, h3, u', v', h4, h5, h6, h7⟩ := h.late i oi hoi hiL' hil
      refine ⟨η, h1, h2, ?_, u', v', ?_, h5, h6, ?_⟩
      · intro s hn
        rcases h3 s hn with ⟨hex, he⟩ | ⟨hno, he⟩
        · refine .inl ⟨hex, ?_⟩
          obtain ⟨k, ok, hk, hks, hkr⟩ := hex
          have hkL : k ∈ L := reach_closed h.ord.closed _ i oi hoi (fun m hm => h.ord.closed i oi hoi hiL' m hm) k hkr
          rw [other k ok s hk hks (fun e => hj (e ▸ hkL))]
          exact he
        · exact .inr ⟨hno, he⟩
      · intro d hdd
        rw [other i oi d hoi hdd hij]
        exact h4 d hdd
      · intro hu'
        rcases h7 hu' with h8 | ⟨h8, R, h9, h10⟩
        · exact .inl h8
        · exact .inr ⟨h8, R, hF _ h9, h10⟩

theorem lst_set {l : Array Bool} {i : Nat} (hi : i < l.size) (k : Nat) : lst (l.setIfInBounds i true) k ↔ k = i ∨ lst l k := by
  unfold lst
  simp only [Array.getD_eq_getD_getElem?]
  by_cases h : i = k
  · subst h; simp [hi]
  · rw [Array.getElem?_setIfInBounds_ne h]
    constructor
    · exact .inr
    · rintro (h1 | h1)
      · exact (h h1.symm).elim
      · exact h1

/-- the schedule runs what is taken already: the frame's side -/
theorem Sim.run {nt : Nat} {O : List Oper} {ρ0 : Env} {a0 : Act} {l : Array Bool} {a : Act} {L : List Nat} {ρ : Env} {w : World} {F : List (Nat × (World → Prop))} (h : Sim P nt O ρ0 a0 l a L ρ w F) (hap : apartO O = true)
    {i : Nat} {o : Oper} (ho : O[i]? = some o) (hiL : i ∈ L) (hil : ¬ lst l i) (hp : ∀ k ∈ predsO o, lst l k) {v : Value} (hv : ∀ d, o.dst = some d → look ρ d = some v) :
    Sim P nt O ρ0 a0 (l.setIfInBounds i true) (a.put o.dst v) L ρ w F := by
  have hsz : i < l.size := by
    rw [h.lsz]
    rcases Nat.lt_or_ge i O.length with h1 | h1
    · exact h1
    · rw [List.getElem?_eq_none h1] at ho; simp at ho
  have hput : ∀ s, o.dst ≠ some s → (a.put o.dst v).tmps.getD s undef = a.tmps.getD s undef := by
    intro s hne
    cases hd : o.dst with
    | none => simp [Act.put]
    | some d =>
      have : d ≠ s := by rintro rfl; exact hne hd
      rw [getD_put h.size (h.dsts i o d ho hd hiL)]
      simp [this]
  refine ⟨by rw [put_size, h.size], by rw [put_defers, h.defers], by simp [h.lsz], ?_, ?_, h.ord, h.c1, h.c2, ?_, ?_, ?_, h.dsts, ?_⟩
  · intro k hk
    rcases (lst_set hsz k).1 hk with rfl | hk
    · exact hiL
    · exact h.sub k hk
  · intro k ok hok hk m hm
    refine (lst_set hsz m).2 ?_
    rcases (lst_set hsz k).1 hk with rfl | hk
    · rw [ho] at hok
      obtain rfl := Option.some.inj hok
      exact .inr (hp m hm)
    · exact .inr (h.dcl k ok hok hk m hm)
  · intro k ok d hk hkd hl
    rcases (lst_set hsz k).1 hl with rfl | hl2
    · rw [ho] at hk
      obtain rfl := Option.some.inj hk
      rw [hkd, getD_put h.size (h.dsts k o d ho hkd hiL)]
      simp [hv d hkd]
    · have hki : k ≠ i := fun x => hil (x ▸ hl2)
      have hne : o.dst ≠ some d := (apart_spec hap hk ho hki hkd).1
      rw [hput d hne]
      exact h.s1 k ok d hk hkd hl2
  · intro d hno v' hv'
    have hne : o.dst ≠ some d := fun hd => hno i o ho hd ((lst_set hsz i).2 (.inl rfl))
    rw [hput d hne]
    exact h.s2 d (fun k ok hk hkd hl => hno k ok hk hkd ((lst_set hsz k).2 (.inr hl))) v' hv'
  · intro d hno
    have hne : o.dst ≠ some d := fun hd => hno i o ho hd ((lst_set hsz i).2 (.inl rfl))
    rw [hput d hne]
    exact h.s3 d fun k ok hk hkd hl => hno k ok hk hkd ((lst_set hsz k).2 (.inr hl))
  · intro k ok hk hkL hkl
    exact h.late k ok hk hkL fun hl => hkl ((lst_set hsz k).2 (.inr hl))

/-- what is taken early runs in the schedule, and comes to the same -/
theorem Sim.late_run {nt : Nat} {ops : Array Oper} {ρ0 : Env} {a0 : Act} {l : Array Bool} {a : Act} {L : List Nat} {ρ : Env} {w : World} {F : List (Nat × (World → Prop))} (h : Sim P nt ops.toList ρ0 a0 l a L ρ w F) (hap : apartO ops.toList = true)
    {i : Nat} {o : Oper} (ho : ops.toList[i]? = some o) (hiL : i ∈ L) (hil : ¬ lst l i) (hp : ∀ k ∈ predsO o, lst l k) {r : Option Nat} {n : Nat} {Q : Exit → Act → World → Prop} {K : Act → World → Prop}
    (hK : ∀ a', Sim P nt ops.toList ρ0 a0 (l.setIfInBounds i true) a' L ρ w F → K a' w) : wpOpIn (Wr r) n P ops Q i K a w := by
  obtain ⟨η, h1, h2, h3, u, v, h4, h5, h6, h7⟩ := h.late i o ho hiL hil
  have hn : ∀ s x, names ops.toList o s → look η s = some x → a.tmps.getD s undef = x := by
    intro s x hs hx
    have hnm := h.named hap ho hil hp hs
    rcases h3 s hs with ⟨hex, he⟩ | ⟨hno, he⟩
    · rw [he, hnm.1 hex] at hx
      exact Option.some.inj hx
    · rw [he] at hx
      exact hnm.2 hno x hx
  have hw := h5.wanted hn
  have ho' : ops[i]? = some o := by rw [← Array.getElem?_toList]; exact ho
  have hs := h.run hap ho hiL hil hp h4
  unfold wpOpIn
  simp only [ho', hw]
  cases u with
  | false =>
    simp only [Bool.false_eq_true, if_false]
    rw [h6 rfl] at hs
    exact ⟨fun _ _ => trivial, hK _ hs⟩
  | true =>
    simp only [if_true]
    have he := exec_named h1 h2 hn
    have hr : (execOp a.eval o).run P w = .ok (.value v) w := by
      rw [← he]
      rcases h7 rfl with h8 | h8
      · exact h8 w
      · exact h8.1
    have he : Eff P (execOp a.eval o) w (fun v' w' => v' = v ∧ w' = w) := Eff.value hr ⟨rfl, rfl⟩
    exact he.uponIn fun v' w' ⟨e1, e2⟩ => by subst e1; subst e2; exact hK _ hs

theorem recheck_spec {O : List Oper} {e : Nat} {w : World} {A : Prop} : ∀ {F : List (Nat × (World → Prop))}, recheck O e w F A → A ∧ ∀ x ∈ F, x.1 ∉ reachO O O.length e → x.2 w
  | [], h => ⟨h, fun _ hx => by cases hx⟩
  | (i, R) :: F, h => by
    simp only [recheck] at h
    split at h
    · rename_i hr
      obtain ⟨hA, hF⟩ := recheck_spec h
      refine ⟨hA, fun x hx hn => ?_⟩
      rcases List.mem_cons.1 hx with rfl | hx
      · exact (hn (hasN_iff.1 hr)).elim
      · exact hF x hx hn
    · obtain ⟨hR, h⟩ := h
      obtain ⟨hA, hF⟩ := recheck_spec h
      refine ⟨hA, fun x hx hn => ?_⟩
      rcases List.mem_cons.1 hx with rfl | hx
      · exact hR
      · exact hF x hx hn

/-- an effect: the frame and the environment go on together -/
theorem Sim.eff {nt : Nat} {O : List Oper} {ρ0 : Env} {a0 : Act} {l : Array Bool} {a : Act} {L : List Nat} {ρ : Env} {w w' : World} {F : List (Nat × (World → Prop))} (h : Sim P nt O ρ0 a0 l a L ρ w F) (hap : apartO O = true)
    {e : Nat} {o : Oper} (ho : O[e]? = some o) (he : e ∉ L) (hp : ∀ k ∈ predsO o, lst l k) (hok : okOp nt ρ o = true) {ρ1 : Env} (hs : ∀ s, look ρ1 s = look ρ s) (v : Value)
    (hre : w' = w ∨ ∀ x ∈ F, x.1 ∉ reachO O O.length e → x.2 w') :
    Sim P nt O ρ0 a0 (l.setIfInBounds e true) (a.put o.dst v) (e :: L) (putE o.dst v ρ1) w' F := by
  obtain ⟨hd, hdst, hsel⟩ := okOp_spec hok
  have hpL : ∀ k ∈ predsO o, k ∈ L := fun k hk => h.sub k (hp k hk)
  have hil : ¬ lst l e := fun hl => he (h.sub e hl)
  -- the same environment, in the new world
  have h' : Sim P nt O ρ0 a0 l a L ρ w' F := by
    rcases hre with rfl | hre
    · exact h
    refine ⟨h.size, h.defers, h.lsz, h.sub, h.dcl, h.ord, h.c1, h.c2, h.s1, h.s2, h.s3, h.dsts, ?_⟩
    intro i oi hoi hiL hl
    obtain ⟨η, h1, h2, h3, u, x, h4, h5, h6, h7⟩ := h.late i oi hoi hiL hl
    refine ⟨η, h1, h2, h3, u, x, h4, h5, h6, fun hu => ?_⟩
    rcases h7 hu with h8 | ⟨_, R, h9, h10⟩
    · exact .inl h8
    · have hni : i ∉ reachO O O.length e := fun hr => hl (reach_closed h.dcl _ e o ho hp i hr)
      exact .inr ⟨h10 w' (hre _ h9 hni), R, h9, h10⟩
  -- first taken, then run
  have hsz : e < l.size := by
    rw [h.lsz]
    rcases Nat.lt_or_ge e O.length with h1 | h1
    · exact h1
    · rw [List.getElem?_eq_none h1] at ho; simp at ho
  have hput : ∀ s, o.dst ≠ some s → (a.put o.dst v).tmps.getD s undef = a.tmps.getD s undef := by
    intro s hne
    cases hd : o.dst with
    | none => simp [Act.put]
    | some d =>
      have : d ≠ s := by rintro rfl; exact hne hd
      rw [getD_put h.size (hdst d hd)]
      simp [this]
  have other : ∀ k ok s, O[k]? = some ok → ok.dst = some s → k ≠ e → look (putE o.dst v ρ1) s = look ρ s := by
    intro k ok s hk hks hkj
    cases hdd : o.dst with
    | none => exact hs s
    | some d =>
      have hne : d ≠ s := by
        rintro rfl
        exact (apart_spec hap hk ho hkj hks).1 hdd
      simp only [putE, look_cons, hne, if_false]
      exact hs s
  refine ⟨by rw [put_size, h.size], by rw [put_defers, h.defers], by simp [h.lsz], ?_, ?_, ⟨⟨o, ho, hpL⟩, h.ord⟩, ?_, ?_, ?_, ?_, ?_, ?_, ?_⟩
  · intro k hk
    rcases (lst_set hsz k).1 hk with rfl | hk
    · simp
    · exact List.mem_cons_of_mem _ (h.sub k hk)
  · intro k ok hok hk m hm
    refine (lst_set hsz m).2 ?_
    rcases (lst_set hsz k).1 hk with rfl | hk
    · rw [ho] at hok
      obtain rfl := Option.some.inj hok
      exact .inr (hp m hm)
    · exact .inr (h.dcl k ok hok hk m hm)
  · intro d hno
    have hjd : o.dst ≠ some d := fun hd => hno e o ho hd (by simp)
    have hρ : look (putE o.dst v ρ1) d = look ρ d := by
      cases hdd : o.dst with
      | none => exact hs d
      | some x =>
        have hne : x ≠ d := by rintro rfl; exact hjd hdd
        simp only [putE, look_cons, hne, if_false]
        exact hs d
    rw [hρ]
    exact h.c1 d fun k ok hk hkd hkL => hno k ok hk hkd (List.mem_cons_of_mem _ hkL)
  · intro k ok d hk hkd hkL
    by_cases hkj : k = e
    · subst hkj
      rw [ho] at hk
      obtain rfl := Option.some.inj hk
      simp [hkd, putE, look_cons]
    · rw [other k ok d hk hkd hkj]
      exact h.c2 k ok d hk hkd ((List.mem_cons.1 hkL).resolve_left hkj)
  · intro k ok d hk hkd hl
    rcases (lst_set hsz k).1 hl with rfl | hl2
    · rw [ho] at hk
      obtain rfl := Option.some.inj hk
      rw [hkd, getD_put h.size (hdst d hkd)]
      simp [putE, look_cons]
    · have hki : k ≠ e := fun x => hil (x ▸ hl2)
      have hne : o.dst ≠ some d := (apart_spec hap hk ho hki hkd).1
      rw [hput d hne, other k ok d hk hkd hki]
      exact h.s1 k ok d hk hkd hl2
  · intro d hno v' hv'
    have hne : o.dst ≠ some d := fun hd => hno e o ho hd ((lst_set hsz e).2 (.inl rfl))
    rw [hput d hne]
    exact h.s2 d (fun k ok hk hkd hl => hno k ok hk hkd ((lst_set hsz k).2 (.inr hl))) v' hv'
  · intro d hno
    have hne : o.dst ≠ some d := fun hd => hno e o ho hd ((lst_set hsz e).2 (.inl rfl))
    rw [hput d hne]
    exact h.s3 d fun k ok hk hkd hl => hno k ok hk hkd ((lst_set hsz k).2 (.inr hl))
  · intro k ok d hk hkd hkL
    by_cases hkj : k = e
    · subst hkj
      rw [ho] at hk
      obtain rfl := Option.some.inj hk
      exact hdst d hkd
    · exact h.dsts k ok d hk hkd ((List.mem_cons.1 hkL).resolve_left hkj)
  · intro i oi hoi hiL hl
    have hie : i ≠ e := by rintro rfl; exact hl ((lst_set hsz i).2 (.inl rfl))
    have hiL' := (List.mem_cons.1 hiL).resolve_left hie
    have hl' : ¬ lst l i := fun hx => hl ((lst_set hsz i).2 (.inr hx))
    obtain ⟨η, h1, h2, h3, u', v', h4, h5, h6, h7⟩ := h'.late i oi hoi hiL' hl'
    refine ⟨η, h1, h2, ?_, u', v', ?_, h5, h6, h7⟩
    · intro s hn
      rcases h3 s hn with ⟨hex, hx⟩ | ⟨hno, hx⟩
      · refine .inl ⟨hex, ?_⟩
        obtain ⟨k, ok, hk, hks, hkr⟩ := hex
        have hkL : k ∈ L := reach_closed h.ord.closed _ i oi hoi (fun m hm => h.ord.closed i oi hoi hiL' m hm) k hkr
        rw [other k ok s hk hks (fun x => he (x ▸ hkL))]
        exact hx
      · exact .inr ⟨hno, hx⟩
    · intro d hdd
      rw [other i oi d hoi hdd hie]
      exact h4 d hdd
end Go.Proofs.YtpcgkfgppfjnlaaGreatDoor.V
namespace Go.Proofs.YtpcgkfgppfjnlaaGreatDoor.V
open Go
variable {P : Program}

theorem readyO_mem {O : List Oper} {L : List Nat} {i : Nat} {o : Oper} : ∀ {r : List Oper} {k : Nat}, (i, o) ∈ readyO O L k r ↔ ∃ m, i = k + m ∧ r[m]? = some o ∧ i ∉ L ∧ ∀ p ∈ predsO o, p ∈ L
  | [], k => by simp [readyO]
  | x :: r, k => by
    have ih := @readyO_mem O L i o r (k + 1)
    have hc : ((!hasN L k && (predsO x).all (hasN L)) = true) ↔ (k ∉ L ∧ ∀ p ∈ predsO x, p ∈ L) := by
      simp only [Bool.and_eq_true, Bool.not_eq_true', List.all_eq_true, hasN_iff]
      constructor
      · rintro ⟨h1, h2⟩
        exact ⟨fun h => by rw [hasN_iff.2 h] at h1; simp at h1, h2⟩
      · rintro ⟨h1, h2⟩
        refine ⟨?_, h2⟩
        cases hh : hasN L k
        · rfl
        · exact (h1 (hasN_iff.1 hh)).elim
    have step : (∃ m, i = k + 1 + m ∧ r[m]? = some o ∧ i ∉ L ∧ ∀ p ∈ predsO o, p ∈ L) → ∃ m, i = k + m ∧ (x :: r)[m]? = some o ∧ i ∉ L ∧ ∀ p ∈ predsO o, p ∈ L := by
      rintro ⟨m, rfl, h⟩
      exact ⟨m + 1, by omega, by simpa using h⟩
    have back : (∃ m, i = k + m ∧ (x :: r)[m]? = some o ∧ i ∉ L ∧ ∀ p ∈ predsO o, p ∈ L) → (i = k ∧ o = x ∧ k ∉ L ∧ ∀ p ∈ predsO x, p ∈ L) ∨ ∃ m, i = k + 1 + m ∧ r[m]? = some o ∧ i ∉ L ∧ ∀ p ∈ predsO o, p ∈ L := by
      rintro ⟨m, rfl, h1, h2, h3⟩
      cases m with
      | zero =>
        simp at h1
        subst h1
        exact .inl ⟨rfl, rfl, by simpa using h2, h3⟩
      | succ m => exact .inr ⟨m, by omega, by simpa using h1, h2, h3⟩
    unfold readyO
    split
    · rename_i hx
      have hx' := hc.1 hx
      rw [List.mem_cons, ih]
      constructor
      · rintro (h | h)
        · simp only [Prod.mk.injEq] at h
          obtain ⟨rfl, rfl⟩ := h
          exact ⟨0, rfl, by simp, hx'.1, hx'.2⟩
        · exact step h
      · intro h
        rcases back h with ⟨rfl, rfl, _, _⟩ | h
        · exact .inl rfl
        · exact .inr h
    · rename_i hx
      rw [ih]
      constructor
      · exact step
      · intro h
        rcases back h with ⟨rfl, rfl, h1, h2⟩ | h
        · exact (hx (hc.2 ⟨h1, h2⟩)).elim
        · exact h
theorem readyO_iff {O : List Oper} {L : List Nat} {i : Nat} {o : Oper} : (i, o) ∈ readyO O L 0 O ↔ O[i]? = some o ∧ i ∉ L ∧ ∀ p ∈ predsO o, p ∈ L := by
  rw [readyO_mem]
  constructor
  · rintro ⟨m, rfl, h⟩; simpa using h
  · intro h; exact ⟨i, by simp, h⟩
theorem mem_predsO {o : Oper} {k : Nat} : k ∈ predsO o ↔ ∃ e ∈ o.after, Region.binds .any e = true ∧ e.on = k := by
  unfold predsO
  simp only [List.mem_filterMap, Array.mem_toList_iff]
  constructor
  · rintro ⟨e, he, h⟩
    split at h
    · rename_i hb; exact ⟨e, he, hb, by simpa using h⟩
    · simp at h
  · rintro ⟨e, he, hb, rfl⟩
    exact ⟨e, he, by simp [hb]⟩
theorem ready_iff {ops : Array Oper} {l : Array Bool} (hl : l.size = ops.toList.length) {i : Nat} : i ∈ Region.ready .any ops l ↔ ∃ o, ops.toList[i]? = some o ∧ ¬ lst l i ∧ ∀ k ∈ predsO o, lst l k := by
  unfold Region.ready
  simp only [List.mem_filter, List.mem_range, Bool.and_eq_true, Bool.not_eq_true']
  constructor
  · rintro ⟨hi, h1, h2⟩
    have ho : ops[i]? = some ops[i] := Array.getElem?_eq_getElem hi
    refine ⟨ops[i], by rw [Array.getElem?_toList]; exact ho, ?_, ?_⟩
    · intro h
      have hil : i < l.size := by rw [hl]; simpa using hi
      have : l.getD i true = l.getD i false := by simp [Array.getD_eq_getD_getElem?, hil]
      rw [this] at h1
      unfold lst at h
      rw [h] at h1
      simp at h1
    · intro k hk
      rw [ho] at h2
      simp only [Option.map_some, Option.getD_some, Array.all_eq_true'] at h2
      obtain ⟨e, he, hb, rfl⟩ := mem_predsO.1 hk
      have := h2 e he
      simpa [hb, lst] using this
  · rintro ⟨o, ho, h1, h2⟩
    rw [Array.getElem?_toList] at ho
    have hi : i < ops.size := by
      rcases Nat.lt_or_ge i ops.size with h | h
      · exact h
      · rw [Array.getElem?_eq_none h] at ho; simp at ho
    refine ⟨hi, ?_, ?_⟩
    · have hil : i < l.size := by rw [hl]; simpa using hi
      have : l.getD i true = l.getD i false := by simp [Array.getD_eq_getD_getElem?, hil]
      rw [this]
      unfold lst at h1
      simpa using h1
    · rw [ho]
      simp only [Option.map_some, Option.getD_some, Array.all_eq_true']
      intro e he
      cases hb : Region.binds .any e
      · rfl
      · have := h2 e.on (mem_predsO.2 ⟨e, he, hb, rfl⟩)
        simpa [lst] using this

def un (l : Array Bool) : Nat → Nat
  | 0 => 0
  | n + 1 => un l n + (if l.getD n false then 0 else 1)
theorem un_zero {l : Array Bool} : ∀ {n : Nat}, un l n = 0 → ∀ i, i < n → lst l i
  | 0, _, i, hi => by omega
  | n + 1, h, i, hi => by
    simp only [un] at h
    rcases Nat.lt_succ_iff_lt_or_eq.1 hi with h1 | rfl
    · exact un_zero (by omega) i h1
    · unfold lst
      cases hh : l.getD i false
      · simp [hh] at h
      · rfl
theorem un_set {l : Array Bool} {i : Nat} (hi : i < l.size) (hn : ¬ lst l i) : ∀ (n : Nat), un (l.setIfInBounds i true) n + (if i < n then 1 else 0) = un l n
  | 0 => by simp [un]
  | n + 1 => by
    have ih := un_set hi hn n
    simp only [un]
    by_cases h : i = n
    · subst h
      have h1 : (l.setIfInBounds i true).getD i false = true := (lst_set hi i).2 (.inl rfl)
      have h2 : l.getD i false = false := by unfold lst at hn; simpa using hn
      simp only [h1, h2, if_true, Nat.lt_irrefl, if_false, Nat.lt_succ_self] at ih ⊢
      simp
      omega
    · have h1 : (l.setIfInBounds i true).getD n false = l.getD n false := by
        simp only [Array.getD_eq_getD_getElem?]
        rw [Array.getElem?_setIfInBounds_ne h]
      rw [h1]
      have : (i < n + 1) ↔ (i < n) := by omega
      simp only [this]
      omega

section
variable {nt : Nat} {ds : List Nat} {ops : Array Oper} {ρ0 : Env} {a0 : Act} {K : Env → World → Prop} {w : World}

theorem okOp_same {ρ ρ' : Env} {o : Oper} (hs : ∀ s, look ρ' s = look ρ s) : okOp nt ρ' o = okOp nt ρ o := by
  have : defd ρ' = defd ρ := by funext x; cases x <;> simp [defd, hs]
  unfold okOp
  rw [this]

/-- the canonical run goes on until what is ready in the schedule is taken, or is the effect that comes next -/
theorem advance (hap : apartO ops.toList = true) {l : Array Bool} {a : Act} {i0 : Nat} {o0 : Oper} (ho0 : ops.toList[i0]? = some o0) (h0 : ¬ lst l i0) (hp0 : ∀ k ∈ predsO o0, lst l k) :
    ∀ (n : Nat) (L : List Nat) (ρ : Env) (F : List (Nat × (World → Prop))), drawDn P nt ops n L ρ w F K → Sim P nt ops.toList ρ0 a0 l a L ρ w F →
      ∃ n' L' ρ' F', drawDn P nt ops n' L' ρ' w F' K ∧ Sim P nt ops.toList ρ0 a0 l a L' ρ' w F' ∧ (i0 ∈ L' ∨ (i0 ∉ L' ∧ ∃ m, n' = m + 1 ∧ List.find? (fun x : Nat × Oper => !Nat.beq (cls P x.2) 2) (readyO ops.toList L' 0 ops.toList) = none))
  | 0, _, _, _, h, _ => h.elim
  | n + 1, L, ρ, F, h, hsim => by
    by_cases hiL : i0 ∈ L
    · exact ⟨n + 1, L, ρ, F, h, hsim, .inl hiL⟩
    have hmem : (i0, o0) ∈ readyO ops.toList L 0 ops.toList := readyO_iff.2 ⟨ho0, hiL, fun k hk => hsim.sub k (hp0 k hk)⟩
    have hfull := h
    simp only [drawDn] at h
    cases hr : readyO ops.toList L 0 ops.toList with
    | nil => rw [hr] at hmem; cases hmem
    | cons x r =>
      rw [hr] at h
      simp only at h
      cases hf : (x :: r).find? (fun x => !Nat.beq (cls P x.2) 2) with
      | some y =>
        obtain ⟨j, o⟩ := y
        rw [hf] at h
        simp only at h
        have hy : (j, o) ∈ readyO ops.toList L 0 ops.toList := by rw [hr]; exact List.mem_of_find?_eq_some hf
        obtain ⟨hoj, hjL, hpj⟩ := readyO_iff.1 hy
        cases hok : okOp nt ρ o with
        | false => simp [hok] at h
        | true =>
          cases hog : okGuard o with
          | false => simp [hok, hog] at h
          | true =>
            simp only [hok, hog, Bool.and_self, cond_true] at h
            obtain ⟨ρ1, u, hs, hu, h⟩ := gd_split h
            rcases h with ⟨rfl, h⟩ | ⟨rfl, h⟩
            · split at h
              · obtain ⟨v, h, hpu⟩ := pure_sound h
                have hs' := hsim.early hap hoj hjL hpj hok hs hu (v := v) (F' := F) (fun _ h => h) (fun h => by simp at h) (fun _ => .inl hpu)
                exact advance hap ho0 h0 hp0 n _ _ _ h hs'
              · obtain ⟨v, R, h, hrd, hR⟩ := read_sound h
                have hs' := hsim.early hap hoj hjL hpj hok hs hu (v := v) (F' := (j, R) :: F) (fun _ h => List.mem_cons_of_mem _ h) (fun h => by simp at h)
                  (fun _ => .inr ⟨hrd, R, by simp, hR⟩)
                exact advance hap ho0 h0 hp0 n _ _ _ h hs'
            · have hs' := hsim.early hap hoj hjL hpj hok hs hu (v := undef) (F' := F) (fun _ h => h) (fun _ => rfl) (fun h => by simp at h)
              exact advance hap ho0 h0 hp0 n _ _ _ h hs'
      | none =>
        rw [hf] at h
        simp only at h
        exact ⟨n + 1, L, ρ, F, hfull, hsim, .inr ⟨hiL, n, rfl, by rw [hr]; exact hf⟩⟩

theorem allR_mem {F : Nat × Oper → Prop} : ∀ {r : List (Nat × Oper)}, allR r F → ∀ x ∈ r, F x
  | [], _, _, h => by cases h
  | [y], h, x, hx => by
    rw [List.mem_singleton.1 hx]
    exact h
  | y :: z :: r, h, x, hx => by
    rcases List.mem_cons.1 hx with rfl | hx
    · exact h.1
    · exact allR_mem h.2 x hx

theorem Sim.agree {l : Array Bool} {a : Act} {L : List Nat} {ρ : Env} {F : List (Nat × (World → Prop))} (h : Sim P nt ops.toList ρ0 a0 l a L ρ w F) (hL : ∀ i ∈ L, lst l i) (hd0 : a0.defers = mks ds) : Ag nt ds ρ a := by
  refine ⟨h.size, h.defers.trans hd0, fun t v ht => ?_⟩
  by_cases hex : ∃ k ok, ops.toList[k]? = some ok ∧ ok.dst = some t ∧ k ∈ L
  · obtain ⟨k, ok, hk, hd, hkL⟩ := hex
    have := h.s1 k ok t hk hd (hL k hkL)
    rw [ht] at this
    exact (Option.some.inj this).symm
  · have hno : ∀ k ok, ops.toList[k]? = some ok → ok.dst = some t → k ∉ L := fun k ok hk hd hkL => hex ⟨k, ok, hk, hd, hkL⟩
    rw [h.c1 t hno] at ht
    exact h.s2 t (fun k ok hk hd hl => hno k ok hk hd (h.sub k hl)) v ht

theorem draw_main {rr : Option Nat} {nn : Nat} (hap : apartO ops.toList = true) (hd0 : a0.defers = mks ds) {Q : Exit → Act → World → Prop} (hQ : ∀ ρ' a' w', Ag nt ds ρ' a' → Keep (noWO ops.toList) a0 a' → K ρ' w' → Q .normal a' w') :
    ∀ (fuel n : Nat) (L : List Nat) (ρ : Env) (w : World) (F : List (Nat × (World → Prop))) (l : Array Bool) (a : Act), un l ops.size ≤ fuel → drawDn P nt ops n L ρ w F K → Sim P nt ops.toList ρ0 a0 l a L ρ w F →
      wpAnyIn (Wr rr) nn P .any ops Q fuel l a w := by
  have finish : ∀ (n : Nat) (L : List Nat) (ρ : Env) (w : World) (F : List (Nat × (World → Prop))) (l : Array Bool) (a : Act), drawDn P nt ops n L ρ w F K → Sim P nt ops.toList ρ0 a0 l a L ρ w F →
      Region.ready .any ops l = [] → Q .normal a w := by
    intro n L ρ w F l a h hsim hr
    have hno : ∀ i o, ops.toList[i]? = some o → ¬ lst l i → ¬ ∀ k ∈ predsO o, lst l k := by
      intro i o ho hi hp
      have : i ∈ Region.ready .any ops l := (ready_iff hsim.lsz).2 ⟨o, ho, hi, hp⟩
      rw [hr] at this
      cases this
    have hL : ∀ i ∈ L, lst l i := by
      intro i hi
      refine Classical.byContradiction fun hn => ?_
      obtain ⟨j, _, hj, o, ho, hp⟩ := hsim.ord.first (D := lst l) ⟨i, hi, hn⟩
      exact hno j o ho hj hp
    cases n with
    | zero => exact h.elim
    | succ n =>
      simp only [drawDn] at h
      cases hrO : readyO ops.toList L 0 ops.toList with
      | nil =>
        rw [hrO] at h
        refine hQ _ _ _ (hsim.agree hL hd0) (fun s hs => hsim.s3 s fun k ok hk hkd _ => ?_) h
        exact noWO_dst hs (List.mem_of_getElem? hk) hkd
      | cons x r =>
        exfalso
        obtain ⟨j, o⟩ := x
        obtain ⟨ho, hj, hp⟩ := readyO_iff.1 (show (j, o) ∈ readyO ops.toList L 0 ops.toList by rw [hrO]; simp)
        exact hno j o ho (fun hl => hj (hsim.sub j hl)) fun k hk => hL k (hp k hk)
  intro fuel
  induction fuel with
  | zero =>
    intro n L ρ w F l a hu h hsim
    have hr : Region.ready .any ops l = [] := by
      rw [List.eq_nil_iff_forall_not_mem]
      intro i hi
      obtain ⟨o, ho, hil, _⟩ := (ready_iff hsim.lsz).1 hi
      have hlt : i < ops.size := by
        rw [Array.getElem?_toList] at ho
        rcases Nat.lt_or_ge i ops.size with h | h
        · exact h
        · rw [Array.getElem?_eq_none h] at ho; simp at ho
      exact hil (un_zero (by omega) i hlt)
    exact ⟨hr, finish _ _ _ _ _ _ _ h hsim hr⟩
  | succ fuel ih =>
    intro n L ρ w F l a hu h hsim
    refine ⟨finish _ _ _ _ _ _ _ h hsim, fun i hi => ?_⟩
    obtain ⟨o, ho, hil, hp⟩ := (ready_iff hsim.lsz).1 hi
    have hlt : i < ops.size := by
      have ho' := ho
      rw [Array.getElem?_toList] at ho'
      rcases Nat.lt_or_ge i ops.size with h | h
      · exact h
      · rw [Array.getElem?_eq_none h] at ho'; simp at ho'
    have hls : i < l.size := by rw [hsim.lsz]; simpa using hlt
    have hun : un (l.setIfInBounds i true) ops.size ≤ fuel := by
      have := un_set hls hil ops.size
      simp only [hlt, if_true] at this
      omega
    obtain ⟨n', L', ρ', F', h', hsim', hc⟩ := advance hap ho hil hp n L ρ F h hsim
    rcases hc with hiL | ⟨hiL, m, rfl, hrd⟩
    · exact hsim'.late_run hap ho hiL hil hp fun a' hs => ih n' L' ρ' w F' _ a' hun h' hs
    · have hmem : (i, o) ∈ readyO ops.toList L' 0 ops.toList := readyO_iff.2 ⟨ho, hiL, fun k hk => hsim'.sub k (hp k hk)⟩
      simp only [drawDn] at h'
      cases hrO : readyO ops.toList L' 0 ops.toList with
      | nil => rw [hrO] at hmem; cases hmem
      | cons y r =>
      rw [hrO] at h' hrd hmem
      simp only [hrd] at h'
      have h' := allR_mem h' (i, o) hmem
      simp only at h'
      cases hok : okOp nt ρ' o with
      | false => simp [hok] at h'
      | true =>
        cases hog : okGuard o with
        | false => simp [hok, hog] at h'
        | true =>
          simp only [hok, hog, Bool.and_self, cond_true] at h'
          obtain ⟨ρ1, u, hs, hgu, h'⟩ := gd_split h'
          have hn : ∀ s x, names ops.toList o s → look ρ' s = some x → a.tmps.getD s undef = x := by
            intro s x hns hx
            have hnm := hsim'.named hap ho hil hp hns
            by_cases hex : ∃ k ok, ops.toList[k]? = some ok ∧ ok.dst = some s ∧ k ∈ reachO ops.toList ops.toList.length i
            · have := hnm.1 hex
              rw [hx] at this
              exact (Option.some.inj this).symm
            · have hno : ∀ k ok, ops.toList[k]? = some ok → ok.dst = some s → k ∉ reachO ops.toList ops.toList.length i := fun k ok hk hd hr => hex ⟨k, ok, hk, hd, hr⟩
              refine hnm.2 hno x ?_
              rw [← hsim'.namedC hap ho hiL hns hno]
              exact hx
          have hw := hgu.wanted hn
          have ho' : ops[i]? = some o := by rw [← Array.getElem?_toList]; exact ho
          unfold wpOpIn
          simp only [ho', hw]
          rcases h' with ⟨rfl, h'⟩ | ⟨rfl, h'⟩
          · simp only [if_true]
            have hn1 : ∀ s x, names ops.toList o s → look ρ1 s = some x → a.tmps.getD s undef = x := fun s x hns hx => hn s x hns (by rw [← hs]; exact hx)
            have hok1 : okOp nt ρ1 o = true := by rw [okOp_same hs]; exact hok
            have hexec := exec_named (okOp_spec hok1).1 (okOp_spec hok1).2.2 hn1
            have he := eff_sound (fun _ => rfl) h'
            rw [hexec] at he
            refine he.uponIn fun v w' hK => ?_
            obtain ⟨hA, hF⟩ := recheck_spec hK
            exact ih _ _ _ _ _ _ _ hun hA (hsim'.eff hap ho hiL hp hok hs v (.inr hF))
          · simp only [Bool.false_eq_true, if_false]
            exact ⟨fun _ _ => trivial, ih _ _ _ _ _ _ _ hun h' (hsim'.eff hap ho hiL hp hok hs undef (.inl rfl))⟩

theorem draw_sound {rr : Option Nat} {nn : Nat} (hm : P.follows .mixedOrders = true) (hap : apartO ops.toList = true) {id : Nat} {ρ : Env} {a : Act} {Q : Exit → Act → World → Prop} (ha : Ag nt ds ρ a)
    (h : dr w fun w => drawDn P nt ops (ops.size + 1) [] ρ w [] K) (hQ : ∀ ρ' a' w', Ag nt ds ρ' a' → Keep (noWO ops.toList) a a' → K ρ' w' → Q .normal a' w') : (Code.region id ops true).wpIn (Wr rr) nn P Q a w := by
  refine wpIn_region_any hm ?_
  have h0 : ∀ i, ¬ lst (Array.replicate ops.size false) i := by
    intro i hi
    unfold lst at hi
    rw [Array.getD_eq_getD_getElem?] at hi
    by_cases hlt : i < ops.size <;> simp [hlt] at hi
  refine draw_main (ρ0 := ρ) (a0 := a) hap ha.defers hQ ops.size _ _ _ _ _ _ _ ?_ h ⟨ha.size, rfl, by simp, fun i hi => (h0 i hi).elim, fun i _ _ hi => (h0 i hi).elim, trivial, fun _ _ => rfl,
    (fun _ _ _ _ _ h => by cases h), fun k _ _ _ _ hl => (h0 k hl).elim, fun d _ v hv => ha.val d v hv, fun _ _ => rfl, (fun _ _ _ _ _ h => by cases h), (fun _ _ _ h => by cases h)⟩
  have : ∀ (l : Array Bool) (n : Nat), un l n ≤ n := by
    intro l n
    induction n with
    | zero => simp [un]
    | succ n ih => simp only [un]; split <;> omega
  exact this _ _
end
end Go.Proofs.YtpcgkfgppfjnlaaGreatDoor.V
namespace Go.Proofs.YtpcgkfgppfjnlaaGreatDoor.V
open Go
variable {P : Program} {ds : List Nat}

def mkK {T : Type} : (ks : List Kd) → (List Value → T) → FnK T ks
  | [], f => f []
  | k :: ks, f => fun x => mkK ks fun vs => f (cellsK k x ++ vs)
def mkE {T : Type} : (L : Lk) → (Env → T) → FnE T L
  | [], f => f []
  | (s, ag, ks) :: r, f => mkK ks fun vs => mkE r fun env => f ((s, mkV ag vs) :: env)

theorem allK_mono {T : Type} : ∀ {ks : List Kd} {g : FnK T ks} {F G : List Value → T → Prop}, allK ks g F → (∀ vs t, F vs t → G vs t) → allK ks g G
  | [], _, _, _, h, hi => hi _ _ h
  | _ :: _, _, _, _, h, hi => fun x => allK_mono (h x) fun _ t => hi _ t
theorem allE_mono {T : Type} : ∀ {L : Lk} {g : FnE T L} {F G : Env → T → Prop}, allE L g F → (∀ env t, F env t → G env t) → allE L g G
  | [], _, _, _, h, hi => hi _ _ h
  | (_, _, _) :: _, _, _, _, h, hi => allK_mono h fun _ _ h => allE_mono h fun _ t => hi _ t
theorem allK_and {T : Type} : ∀ {ks : List Kd} {g : FnK T ks} {F G : List Value → T → Prop}, allK ks g F → allK ks g G → allK ks g fun vs t => F vs t ∧ G vs t
  | [], _, _, _, h, h2 => ⟨h, h2⟩
  | _ :: _, _, _, _, h, h2 => fun x => allK_and (h x) (h2 x)
theorem allE_and {T : Type} : ∀ {L : Lk} {g : FnE T L} {F G : Env → T → Prop}, allE L g F → allE L g G → allE L g fun env t => F env t ∧ G env t
  | [], _, _, _, h, h2 => ⟨h, h2⟩
  | (_, _, _) :: _, _, _, _, h, h2 => allK_mono (allK_and h h2) fun _ _ ⟨h, h2⟩ => allE_and h h2
theorem allK_triv {T : Type} : ∀ {ks : List Kd} {g : FnK T ks} {F : List Value → T → Prop}, (∀ vs t, F vs t) → allK ks g F
  | [], _, _, h => h _ _
  | _ :: _, _, _, h => fun _ => allK_triv fun _ t => h _ t
theorem allE_triv {T : Type} : ∀ {L : Lk} {g : FnE T L} {F : Env → T → Prop}, (∀ env t, F env t) → allE L g F
  | [], _, _, h => h _ _
  | (_, _, _) :: _, _, _, h => allK_triv fun _ _ => allE_triv fun _ t => h _ t
theorem allK_mk {T : Type} : ∀ {ks : List Kd} {f : List Value → T} {F : List Value → T → Prop}, (∀ vs, F vs (f vs)) → allK ks (mkK ks f) F
  | [], _, _, h => h _
  | _ :: _, _, _, h => fun _ => allK_mk fun _ => h _
theorem allE_mk {T : Type} : ∀ {L : Lk} {f : Env → T} {F : Env → T → Prop}, (∀ env, F env (f env)) → allE L (mkE L f) F
  | [], _, _, h => h _
  | (_, _, _) :: _, _, _, h => allK_mk fun _ => allE_mk fun _ => h _
theorem allK_zip_mk {A B C : Type} {j : A → B → C} : ∀ {ks : List Kd} {g : FnK A ks} {h : List Value → B} {F : List Value → C → Prop}, allK ks g (fun vs a => F vs (j a (h vs))) → allK ks (zipK j ks g (mkK ks h)) F
  | [], _, _, _, hh => hh
  | _ :: _, _, _, _, hh => fun x => allK_zip_mk (hh x)
theorem allE_zip_mk {A B : Type} : ∀ {L : Lk} {g : FnE A L} {f : Env → B} {F : Env → A × B → Prop}, allE L g (fun env a => F env (a, f env)) → allE L (zipE L g (mkE L f)) F
  | [], _, _, _, h => h
  | (_, _, _) :: _, _, _, _, h => allK_zip_mk (allK_mono h fun _ _ h => allE_zip_mk h)

theorem unK_spec {k : Kd} {vs : List Value} {f : KT k → List Value → Prop} (h : unK k vs f) : ∃ x r, vs = cellsK k x ++ r ∧ f x r := by
  unfold unK at h
  split at h
  · split at h
    · rename_i hk
      obtain rfl := eq_of_beq hk
      exact ⟨_, _, rfl, h⟩
    · exact h.elim
  · exact ⟨_, _, rfl, h⟩
  · exact ⟨_, _, rfl, h⟩
  · exact ⟨_, _, rfl, h⟩
  · exact ⟨⟨_, _, _⟩, _, rfl, h⟩
  · exact ⟨_, _, rfl, h⟩
  · exact ⟨⟨_, _, _⟩, _, rfl, h⟩
  · rename_i k n vs
    obtain ⟨d, hd, h⟩ := h
    exact ⟨d, _, by rw [show cellsK (.arr k n) d = cellsA k d 0 n from rfl, ← hd]; exact (List.take_append_drop n _).symm, h⟩
  · exact h.elim
theorem unKs_all {T : Type} : ∀ {ks : List Kd} {f : FnK T ks} {vs : List Value} {G : T → Prop} {F : List Value → T → Prop}, unKs ks f vs G → allK ks f F → ∃ t, F vs t ∧ G t
  | [], _, [], _, _, h, ha => ⟨_, ha, h⟩
  | [], _, _ :: _, _, _, h, _ => h.elim
  | k :: ks, f, vs, G, F, h, ha => by
    obtain ⟨x, r, rfl, h2⟩ := unK_spec h
    exact unKs_all (F := fun r t => F (cellsK k x ++ r) t) h2 (ha x)
theorem apE_all {T : Type} : ∀ {L : Lk} {f : FnE T L} {ρ : Env} {G : T → Prop} {F : Env → T → Prop}, apE L f ρ G → allE L f F → ∃ env t, F env t ∧ G t ∧ ∀ s v, look env s = some v → look ρ s = some v
  | [], f, _, _, _, h, ha => ⟨[], f, ha, h, fun _ _ h => by simp [look] at h⟩
  | (s, ag, ks) :: r, f, ρ, G, F, h, ha => by
    simp only [apE] at h
    cases hl : look ρ s with
    | none => simp [hl] at h
    | some v =>
      rw [hl] at h
      simp only at h
      have fin : ∀ vs, mkV ag vs = v → unKs ks f vs (fun g => apE r g ρ G) → ∃ env t, F env t ∧ G t ∧ ∀ s v, look env s = some v → look ρ s = some v := by
        intro vs hv hu
        obtain ⟨g, hF, hG⟩ := unKs_all hu ha
        obtain ⟨env, t, h1, h2, h3⟩ := apE_all hG hF
        refine ⟨_, t, h1, h2, fun s' v' hs' => ?_⟩
        rw [look_cons] at hs'
        split at hs'
        · rename_i he
          subst he
          rw [hl, ← hv]
          exact hs'
        · exact h3 s' v' hs'
      split at h
      · exact fin _ (by simp [mkV]) h
      · exact fin [v] rfl h
      · exact h.elim
theorem apE_mk {T : Type} {L : Lk} {f : Env → T} {ρ : Env} {G : T → Prop} (h : apE L (mkE L f) ρ G) : ∃ env, G (f env) ∧ ∀ s v, look env s = some v → look ρ s = some v := by
  obtain ⟨env, t, rfl, h1, h2⟩ := apE_all (F := fun env t => t = f env) h (allE_mk fun _ => rfl)
  exact ⟨env, h1, h2⟩
theorem Ag.sub {nt : Nat} {ρ ρ' : Env} {a : Act} (h : Ag nt ds ρ a) (hs : ∀ s v, look ρ' s = some v → look ρ s = some v) : Ag nt ds ρ' a :=
  ⟨h.size, h.defers, fun t v ht => h.val t v (hs t v ht)⟩

/-- the demand on a frame that goes with one on an environment -/
def up (nt : Nat) (W : Nat → Bool) (a0 : Act) (Q : Qd) : Exit → Act → World → Prop := fun e a w => (∃ ds ρ, Ag nt ds ρ a ∧ Q e ds ρ w) ∧ Keep W a0 a
theorem Keep.trans {W : Nat → Bool} {a b c : Act} (h : Keep W a b) (h2 : Keep W b c) : Keep W a c := fun s hs => by rw [h2 s hs, h s hs]
theorem Keep.mono {W W' : Nat → Bool} {a b : Act} (h : Keep W a b) (hw : ∀ s, W' s = true → W s = true) : Keep W' a b := fun s hs => h s (hw s hs)
theorem look_append (e f : Env) (s : Nat) : look (e ++ f) s = match look e s with
    | some v => some v
    | none => look f s := by
  induction e with
  | nil => rfl
  | cons x e ih =>
    obtain ⟨t, v⟩ := x
    rw [List.cons_append, look_cons, look_cons]
    split
    · rfl
    · exact ih
theorem look_restr {ρ : Env} {s : Nat} {v : Value} : ∀ {C : List Nat}, look (restr C ρ) s = some v → s ∈ C ∧ look ρ s = some v
  | [], h => by simp [restr, look] at h
  | t :: C, h => by
    simp only [restr] at h
    split at h
    · rename_i u hu
      rw [look_cons] at h
      split at h
      · rename_i he
        subst he
        exact ⟨by simp, by rw [hu]; exact h⟩
      · obtain ⟨h1, h2⟩ := look_restr h
        exact ⟨List.mem_cons_of_mem _ h1, h2⟩
    · obtain ⟨h1, h2⟩ := look_restr h
      exact ⟨List.mem_cons_of_mem _ h1, h2⟩
/-- what holds of the kept slots still holds behind a code that does not write them -/
theorem Ag.more {nt : Nat} {env ρ : Env} {C : List Nat} {W : Nat → Bool} {a a' : Act} (he : Ag nt ds env a') (ha : Ag nt ds ρ a) (hk : Keep W a a') (hC : C.all W = true) : Ag nt ds (env ++ restr C ρ) a' := by
  refine ⟨he.size, he.defers, fun t v ht => ?_⟩
  rw [look_append] at ht
  split at ht
  · rename_i u hu
    rw [he.val t u hu]
    exact Option.some.inj ht
  · obtain ⟨h1, h2⟩ := look_restr ht
    rw [hk t (List.all_eq_true.1 hC t h1)]
    exact ha.val t v h2

theorem lp_sound {r : Option Nat} {n : Nat} {nt : Nat} {L : Lk} {c : Code} {W : Nat → Bool} {a0 : Act} {Q : Exit → Act → World → Prop} {B : FnE (World → Prop) L → Env → World → Prop}
    (hB : ∀ K env w a, B K env w → Ag nt ds env a → Keep W a0 a → c.wpIn (Wr r) n P (fun e a' w' => match e with
      | .normal => (∃ ρ', Ag nt ds ρ' a' ∧ apE L K ρ' fun k => k w') ∧ Keep W a0 a'
      | e => Q e a' w') a w) {ρ : Env} {w : World} (h : lpDn L B ρ w) (ha : Ag nt ds ρ a0) : (Code.loop c).wpIn (Wr r) n P Q a0 w := by
  obtain ⟨I, μ, h0, hs⟩ := h
  have key : ∀ m, allE L (zipE L I μ) fun env im => ∀ w a, im.1 w → im.2 w < m → Ag nt ds env a → Keep W a0 a → Code.roundsIn (Wr r) n P c Q m a w := by
    intro m
    induction m with
    | zero => exact allE_triv fun _ _ w a _ h => by omega
    | succ m ih =>
      refine allE_mono hs fun env im hb w a hI hμ ha hk => ?_
      rw [roundsIn_succ]
      -- what is handed to the next round
      have hK := hb w (mkE L fun env w' => ∀ a', Ag nt ds env a' → Keep W a0 a' → Code.roundsIn (Wr r) n P c Q m a' w') hI ?_
      · refine wpIn_mono (hB _ _ _ _ hK ha hk) fun e a' w' hq => ?_
        cases e <;> first
          | exact hq
          | (obtain ⟨⟨ρ', ha', hq⟩, hk'⟩ := hq
             obtain ⟨env', h1, h2⟩ := apE_mk hq
             exact h1 _ (ha'.sub h2) hk')
      · refine allE_zip_mk (allE_mono ih fun env' im' h w' h1 h2 a' ha' hk' => ?_)
        exact h w' a' h1 (by simp only at h2; omega) ha' hk'
  have h0' : ∃ (env : Env) (im : (World → Prop) × (World → Nat)), (∀ m w a, im.1 w → im.2 w < m → Ag nt ds env a → Keep W a0 a → Code.roundsIn (Wr r) n P c Q m a w) ∧ im.1 w ∧ Ag nt ds env a0 := by
    have hall : allE L (zipE L I μ) fun env im => ∀ m w a, im.1 w → im.2 w < m → Ag nt ds env a → Keep W a0 a → Code.roundsIn (Wr r) n P c Q m a w := by
      have : ∀ (L : Lk) (g : FnE ((World → Prop) × (World → Nat)) L) (F : Nat → Env → (World → Prop) × (World → Nat) → Prop), (∀ m, allE L g (F m)) → allE L g fun env im => ∀ m, F m env im := by
        intro L
        induction L with
        | nil => intro g F h m; exact h m
        | cons x L ih =>
          obtain ⟨s, ag, ks⟩ := x
          intro g F h
          have hk : ∀ (ks : List Kd) (g : FnK (FnE ((World → Prop) × (World → Nat)) L) ks) (F : Nat → List Value → Env → (World → Prop) × (World → Nat) → Prop), (∀ m, allK ks g fun vs g => allE L g (F m vs)) → allK ks g fun vs g => allE L g fun env im => ∀ m, F m vs env im := by
            intro ks
            induction ks with
            | nil => intro g F h; exact ih g _ fun m => h m
            | cons k ks ihk => intro g F h x; exact ihk _ (fun m vs => F m (cellsK k x ++ vs)) fun m => h m x
          exact hk ks g (fun m vs env im => F m ((s, mkV ag vs) :: env) im) h
      exact this L _ _ key
    -- the start
    have start : ∀ (L : Lk) (I : FnE (World → Prop) L) (μ : FnE (World → Nat) L) (F : Env → (World → Prop) × (World → Nat) → Prop), apE L I ρ (fun i => i w) → allE L (zipE L I μ) F →
        ∃ env im, F env im ∧ im.1 w ∧ ∀ s v, look env s = some v → look ρ s = some v := by
      intro L
      induction L with
      | nil => intro I μ F h hF; exact ⟨[], (I, μ), hF, h, fun _ _ h => by simp [look] at h⟩
      | cons x L ih =>
        obtain ⟨s, ag, ks⟩ := x
        intro I μ F h hF
        simp only [apE] at h
        cases hl : look ρ s with
        | none => simp [hl] at h
        | some v =>
          rw [hl] at h
          simp only at h
          have un : ∀ (ks : List Kd) (I : FnK (FnE (World → Prop) L) ks) (μ : FnK (FnE (World → Nat) L) ks) (vs : List Value) (F : List Value → FnE ((World → Prop) × (World → Nat)) L → Prop),
              unKs ks I vs (fun g => apE L g ρ fun i => i w) → allK ks (zipK (zipE L) ks I μ) F → ∃ g m, apE L g ρ (fun i => i w) ∧ F vs (zipE L g m) := by
            intro ks
            induction ks with
            | nil =>
              intro I μ vs F h hF
              cases vs with
              | nil => exact ⟨I, μ, h, hF⟩
              | cons _ _ => exact h.elim
            | cons k ks ihk =>
              intro I μ vs F h hF
              obtain ⟨x, r, rfl, h2⟩ := unK_spec h
              exact ihk (I x) (μ x) r _ h2 (hF x)
          have fin : ∀ vs, mkV ag vs = v → unKs ks I vs (fun g => apE L g ρ fun i => i w) → ∃ env im, F env im ∧ im.1 w ∧ ∀ s v, look env s = some v → look ρ s = some v := by
            intro vs hv hu
            obtain ⟨g, m, hg, hF'⟩ := un ks I μ vs _ hu hF
            obtain ⟨env, im, h1, h2, h3⟩ := ih g m _ hg hF'
            refine ⟨_, im, h1, h2, fun s' v' hs' => ?_⟩
            rw [look_cons] at hs'
            split at hs'
            · rename_i he
              subst he
              rw [hl, ← hv]
              exact hs'
            · exact h3 s' v' hs'
          split at h
          · exact fin _ (by simp [mkV]) h
          · exact fin [v] rfl h
          · exact h.elim
    obtain ⟨env, im, h1, h2, h3⟩ := start L I μ _ h0 hall
    exact ⟨env, im, h1, h2, ha.sub h3⟩
  obtain ⟨env, im, h1, h2, h3⟩ := h0'
  exact wpIn_loop_rounds (im.2 w + 1) (h1 _ w a0 h2 (by omega) h3 fun _ _ => rfl)

/-! A LOOP OVER A FUNCTION -/
theorem begin_run {R : Loop} {b : Nat} {w : World} {K : World → Prop} (h : lpBegin R b w K) : ∃ w2, (Instr.beginRound b).run P w = .ok () w2 ∧ K w2 := by
  obtain ⟨h1, h2⟩ := h
  have h1' : w.heap[b]? = some (.loop { R with state := .ready, pending := none }) := h1
  have hb : b < w.heap.size := (Array.getElem?_eq_some_iff.1 h1').1
  exact ⟨_, run_beginRound h1' rfl, h2 _ ⟨rfl, rfl, rfl, World.putObj_size, fun i hi => World.putObj_heap_other hi⟩ (World.putObj_heap_same hb)⟩
theorem close_run {R : Loop} {b : Nat} {j : Option Code} {w : World} {K : World → Prop} (h : lpClose R b j w K) : ∃ w2, (Instr.endRound b j).run P w = .ok (.bool j.isNone) w2 ∧ K w2 := by
  obtain ⟨h1, h2⟩ := h
  have h1' : w.heap[b]? = some (.loop { R with state := .busy, pending := none }) := h1
  have hb : b < w.heap.size := (Array.getElem?_eq_some_iff.1 h1').1
  exact ⟨_, run_endRound j h1', h2 _ ⟨rfl, rfl, rfl, World.putObj_size, fun i hi => World.putObj_heap_other hi⟩ (World.putObj_heap_same hb)⟩
theorem allVK_of : ∀ {ks : List Kd} {G : List Value → Prop}, (∀ vs, G vs) → allVK ks G
  | [], _, h => h _
  | _ :: _, _, h => fun _ => allVK_of fun _ => h _
theorem allV_of : ∀ {L : Lk} {F : Env → Prop}, (∀ env, env.map (·.1) = L.map (·.1) → F env) → allV L F
  | [], _, h => h [] rfl
  | (s, ag, ks) :: r, F, h => allVK_of fun vs => allV_of fun env he => h _ (by simp [he])
theorem pushE_look : ∀ (env ρ : Env) (tmps : Array Value) (nt : Nat), (∀ x ∈ env, x.1 < nt) → tmps.size = nt → (∀ t v, look ρ t = some v → tmps.getD t undef = v) →
    (∀ t v, look (pushE env ρ) t = some v → (env.foldl (fun (tmps : Array Value) x => tmps.setIfInBounds x.1 x.2) tmps).getD t undef = v) ∧ (env.foldl (fun (tmps : Array Value) x => tmps.setIfInBounds x.1 x.2) tmps).size = nt
  | [], _, _, _, _, hs, h => ⟨h, hs⟩
  | (s, v) :: env, ρ, tmps, nt, hb, hs, h => by
    refine pushE_look env ((s, v) :: ρ) (tmps.setIfInBounds s v) nt (fun x hx => hb x (List.mem_cons_of_mem _ hx)) (by simp [hs]) fun t u hu => ?_
    rw [look_cons] at hu
    have hsn : s < nt := hb (s, v) (by simp)
    simp only [Array.getD_eq_getD_getElem?]
    by_cases hst : s = t
    · subst hst
      rw [if_pos rfl] at hu
      simp [hs, hsn, Option.some.inj hu]
    · rw [if_neg hst] at hu
      rw [Array.getElem?_setIfInBounds_ne hst, ← Array.getD_eq_getD_getElem?]
      exact h t u hu
theorem zip_fold : ∀ (env : Env) (ps : List Nat) (tmps : Array Value), env.map (·.1) = ps →
    (ps.toArray.zip (valsE env).toArray).foldl (fun (tmps : Array Value) (x : Nat × Value) => tmps.setIfInBounds x.1 x.2) tmps = env.foldl (fun (tmps : Array Value) x => tmps.setIfInBounds x.1 x.2) tmps := by
  intro env ps tmps he
  have h1 : List.zip ps (valsE env) = env := by
    subst he
    induction env with
    | nil => rfl
    | cons x r ih => obtain ⟨s, v⟩ := x; simp [valsE, ih]
  rw [← Array.foldl_toList]
  simp [h1]
theorem valsE_length : ∀ (env : Env), (valsE env).length = env.length
  | [] => rfl
  | (_, _) :: r => by simp [valsE, valsE_length r]

theorem rfK_some {R : Loop} {b : Nat} {w2 : World} {K : Option Code → World → Prop} : ∀ {js : List (Option Code)}, rfK R b w2 K js → ∃ j, lpEnd R b j w2 ∧ ∀ w3, Sole b w2 w3 → K j w3
  | [], h => h.elim
  | [j], h => ⟨j, h⟩
  | j :: _i :: _r, h => h.elim (fun h => ⟨j, h⟩) rfK_some
theorem two_blocks (w : World) (o p : Obj) : ((w.alloc o).alloc p).heap.size = w.heap.size + 2 ∧ (∀ i, i < w.heap.size → ((w.alloc o).alloc p).heap[i]? = w.heap[i]?) ∧
    ((w.alloc o).alloc p).heap[w.heap.size]? = some o ∧ ((w.alloc o).alloc p).heap[w.heap.size + 1]? = some p := by
  show ((w.heap.push o).push p).size = _ ∧ (∀ i, i < w.heap.size → ((w.heap.push o).push p)[i]? = _) ∧ ((w.heap.push o).push p)[w.heap.size]? = _ ∧ ((w.heap.push o).push p)[w.heap.size + 1]? = _
  refine ⟨by simp, fun i hi => ?_, ?_, ?_⟩
  · rw [Array.getElem?_push, if_neg (by simp; omega), Array.getElem?_push, if_neg (by omega)]
  · rw [Array.getElem?_push, if_neg (by simp), Array.getElem?_push, if_pos rfl]
  · rw [Array.getElem?_push, if_pos (by simp)]
theorem rf_sound {nt : Nat} {an : An} {g : Operand} {ps : Array Nat} {assign body : Code}
    (hA : ∀ (l n : Nat) (Q : Qd) (ρ : Env) (w : World) (a : Act), den P nt an assign Q [] ρ w → Ag nt [] ρ a → plainC assign = true → assign.wpIn (Wr (some l)) n P (up nt (noW assign) a Q) a w)
    (hB : ∀ (l n : Nat) (Q : Qd) (ds : List Nat) (ρ : Env) (w : World) (a : Act), den P nt an body Q ds ρ w → Ag nt ds ρ a → plainC body = true → body.wpIn (Wr (some l)) n P (up nt (noW body) a Q) a w)
    {n : Nat} {Q : Qd} {ρ : Env} {w : World} {a : Act} (h : den P nt an (.rangeFunc g ps assign body) Q ds ρ w) (ha : Ag nt ds ρ a) :
    (Code.rangeFunc g ps assign body).wpIn (Wr none) n P (up nt (fun _ => false) a Q) a w := by
  simp only [den] at h
  split at h
  · rename_i L C gf first cap hL hg
    cases hcond : (defd ρ g && (ps.toList == L.map (·.1)) && ps.toList.all (fun p => Nat.blt p nt) && plainC assign && plainC body) with
    | false => rw [hcond] at h; exact h.elim
    | true =>
      rw [hcond] at h
      simp only [cond_true] at h
      simp only [Bool.and_eq_true] at hcond
      obtain ⟨⟨⟨⟨hdg, hps⟩, hlt⟩, hpa⟩, hpb⟩ := hcond
      have hps : ps.toList = L.map (·.1) := by simpa using hps
      have hlt : ∀ p ∈ ps.toList, p < nt := by
        intro p hp
        have := List.all_eq_true.1 hlt p hp
        simpa [Nat.blt_eq] using this
      obtain ⟨⟨fn0, hf0, hb0, hn0⟩, h⟩ := h
      have hv : a.eval g = .func (.func gf) first cap := by rw [← ha.eval hdg]; exact hg
      refine wpIn_rangeFunc fun fn _ => ?_
      generalize hR : ({ state := .ready, pending := none, fn := fn, tmps := a.tmps, params := ps, assign, body, defers := w.heap.size } : Loop) = R
      have hen := run_enterLoop_outer (P := P) (w := w) fn a.tmps ps assign body
      rw [hR] at hen
      have hR1 : R.fn = fn ∧ R.tmps = a.tmps ∧ R.params = ps ∧ R.assign = assign ∧ R.body = body := by subst hR; exact ⟨rfl, rfl, rfl, rfl, rfl⟩
      have hR2 : ({ R with state := .ready, pending := none } : Loop) = R := by subst hR; rfl
      obtain ⟨t1, t2, t3, t4⟩ := two_blocks w (.deferred (some [])) (.loop R)
      have t4' : lpEnd R (w.heap.size + 1) none ((w.alloc (.deferred (some []))).alloc (.loop R)) := by
        show _ = some (Obj.loop { R with state := .ready, pending := none })
        rw [hR2]; exact t4
      have hc := h R ((w.alloc (.deferred (some []))).alloc (.loop R)) rfl rfl rfl t1 t2 t3 t4'
      clear h hR
      generalize hw1 : (w.alloc (.deferred (some []))).alloc (.loop R) = w1 at hen hc t1 t2 t3 t4 t4'
      refine ⟨w.heap.size + 1, [{ target := .collected w.heap.size, args := #[] }], w1, { target := .fn (.func gf) cap, args := first ++ #[.func (.yield (w.heap.size + 1)) #[] #[]] }, w1, gf,
        first ++ #[.func (.yield (w.heap.size + 1)) #[] #[]] ++ cap, w1, hen, ?_, fun _ _ => trivial, ?_, fun h => by simp [Fence.wide] at h, ?_⟩
      · simp only [resolve, hv, Deferred.ofValue]
        rw [show Array.map a.eval #[Operand.const (.func (.yield (w.heap.size + 1)) #[] #[])] = #[.func (.yield (w.heap.size + 1)) #[] #[]] from by simp [Act.eval]]
        exact Sem.run_pure _ _ _
      · simp only [invoke, callFunc_enter hf0 hn0 hb0]
      refine calls_any ?_
      have hr := hc ?_
      · clear hc
        refine Calls.mono hr fun e w2 ⟨v, he, hK⟩ => ?_
        obtain ⟨j, hj, hK⟩ := rfK_some hK
        subst he
        have hj' : w2.heap[w.heap.size + 1]? = some (.loop { R with state := if j.isNone then .ready else .done, pending := j }) := hj
        have hb : w.heap.size + 1 < w2.heap.size := (Array.getElem?_eq_some_iff.1 hj').1
        have hne : (if j.isNone then LoopState.ready else LoopState.done) ≠ .busy := by cases j <;> simp
        have he := run_endLoop (P := P) hj' hne
        refine ⟨j, _, he, ?_⟩
        clear he
        have hS : ∀ o, Sole (w.heap.size + 1) w2 (w2.putObj (w.heap.size + 1) o) := fun o => ⟨rfl, rfl, rfl, World.putObj_size, fun i hi => World.putObj_heap_other hi⟩
        have hK := fun o => hK _ (hS o)
        generalize Obj.loop _ = o
        have hK := hK o
        have ha' : Ag nt (w.heap.size :: ds) ρ { a with defers := [{ target := .collected w.heap.size, args := #[] }] ++ a.defers } :=
          ⟨ha.size, by simp [ha.defers, mks], ha.val⟩
        cases j with
        | none => exact ⟨⟨_, ρ, ha', hK⟩, fun _ h => by simp at h⟩
        | some c =>
          cases c <;> first
            | exact hK.elim
            | exact wpIn_ret ⟨⟨_, ρ, ha', hK⟩, fun _ h => by simp at h⟩
            | exact wpIn_exit ⟨⟨_, ρ, ha', hK⟩, fun _ h => by simp at h⟩
      · -- a round
        clear hc
        refine allV_of fun env henv W Ky hW hr => ?_
        have henv' : env.map (·.1) = ps.toList := by rw [henv, hps]
        have hW' : W.heap[w.heap.size + 1]? = some (.loop R) := by rw [← hR2]; exact hW
        obtain ⟨r1, r2, r3, r4, r5⟩ := hR1
        have hsz : (valsE env).toArray.size = ps.size := by
          have : env.length = ps.size := by rw [← List.length_map (f := (·.1)), henv']; simp
          simp [valsE_length, this]
        have hy := run_yield (P := P) hW' (by rw [r3]; exact hsz)
        rw [r1, r2, r3, r4, r5] at hy
        refine ⟨fn, _, assign, body, hy, ?_⟩
        have hz := zip_fold env ps.toList a.tmps henv'
        rw [Array.toArray_toList] at hz
        have hpush := pushE_look env ρ a.tmps nt (fun x hx => hlt _ (by rw [← henv']; exact List.mem_map_of_mem hx)) ha.size ha.val
        have hag : Ag nt [] (pushE env ρ) { tmps := (ps.zip (valsE env).toArray).foldl (fun (tmps : Array Value) (x : Nat × Value) => tmps.setIfInBounds x.1 x.2) a.tmps, defers := [] } := by
          refine ⟨?_, rfl, ?_⟩
          · exact (congrArg Array.size hz).trans hpush.2
          · intro t v ht
            exact (congrArg (fun x : Array Value => x.getD t undef) hz).trans (hpush.1 t v ht)
        refine roundIn_of_wpIn trivial ?_
        refine wpIn_mono (hA (w.heap.size + 1) 0 _ _ _ _ hr hag hpa) fun e a1 w1 hq => ?_
        obtain ⟨⟨ds1, ρ1, ha1, hq⟩, _⟩ := hq
        cases e <;> first
          | exact hq.elim
          | skip
        obtain ⟨w2, hbr, hq⟩ := begin_run (P := P) hq
        refine ⟨w2, hbr, ?_⟩
        refine wpIn_mono (hB (w.heap.size + 1) 0 _ _ _ _ _ hq ha1 hpb) fun e a3 w3 hq => ?_
        obtain ⟨⟨ds3, ρ3, ha3, hq⟩, _⟩ := hq
        cases e <;> first
          | exact hq.elim
          | (obtain ⟨w4, he, hq⟩ := close_run (P := P) hq
             exact ⟨_, w4, he, _, rfl, hq⟩)
  · exact h.elim

theorem den_sound (hm : P.follows .mixedOrders = true) (nt : Nat) (an : An) : ∀ (c : Code) (r : Option Nat), (r = none ∨ plainC c = true) → ∀ (n : Nat) (Q : Qd) (ds : List Nat) (ρ : Env) (w : World) (a : Act), den P nt an c Q ds ρ w → Ag nt ds ρ a →
    c.wpIn (Wr r) n P (up nt (noW c) a Q) a w
  | .skip, r, _, n, Q, ds, ρ, w, a, h, ha => wpIn_skip ⟨⟨ds, ρ, ha, h⟩, fun _ _ => rfl⟩
  | .label _, r, _, n, Q, ds, ρ, w, a, h, ha => wpIn_label ⟨⟨ds, ρ, ha, h⟩, fun _ _ => rfl⟩
  | .region id ops false, r, _, n, Q, ds, ρ, w, a, h, ha => wpIn_region_list (seq_sound _ _ _ _ _ h ha fun ρ' a' w' ha' hk hq => ⟨⟨ds, ρ', ha', hq⟩, hk⟩)
  | .region id ops true, r, hp, n, Q, ds, ρ, w, a, h, ha => by
    simp only [den] at h
    cases hap : apartO ops.toList with
    | false => simp [hap] at h
    | true =>
      simp only [hap, cond_true] at h
      exact draw_sound hm hap ha h fun ρ' a' w' ha' hk hq => ⟨⟨ds, ρ', ha', hq⟩, hk⟩
  | .seq x y, r, hp, n, Q, ds, ρ, w, a, h, ha => by
    simp only [den] at h
    have p1 : r = none ∨ plainC x = true := hp.imp id fun h => by simp only [plainC, Bool.and_eq_true] at h; exact h.1
    have p2 : r = none ∨ plainC y = true := hp.imp id fun h => by simp only [plainC, Bool.and_eq_true] at h; exact h.2
    have w1 : ∀ s, noW (.seq x y) s = true → noW x s = true := fun s hs => by simp only [noW, Bool.and_eq_true] at hs; exact hs.1
    have w2 : ∀ s, noW (.seq x y) s = true → noW y s = true := fun s hs => by simp only [noW, Bool.and_eq_true] at hs; exact hs.2
    refine wpIn_seq ?_
    split at h
    · rename_i L C hL
      cases hC : C.all (noW x) with
      | false => simp [hC] at h
      | true =>
        simp only [hC, cond_true] at h
        obtain ⟨J, hA, hJ⟩ := h
        refine wpIn_mono (den_sound hm nt an x r p1 n _ ds ρ w a hA ha) fun e a' w' hq => ?_
        obtain ⟨⟨ds', ρ', ha', hq⟩, hk⟩ := hq
        cases e <;> first
          | exact ⟨⟨ds', ρ', ha', hq⟩, hk.mono w1⟩
          | (simp only at hq
             cases hds : ds' == ds with
             | false => simp [hds] at hq
             | true =>
               simp only [hds, cond_true] at hq
               obtain rfl : ds' = ds := by simpa using hds
               obtain ⟨env, j, h1, h2, h3⟩ := apE_all hq hJ
               refine wpIn_mono (den_sound hm nt an y r p2 n Q ds' _ w' a' (h1 w' h2) ((ha'.sub h3).more ha hk hC)) fun e a'' w'' hq => ?_
               exact ⟨hq.1, (hk.mono w1).trans (hq.2.mono w2)⟩)
    · refine wpIn_mono (den_sound hm nt an x r p1 n _ ds ρ w a h ha) fun e a' w' hq => ?_
      obtain ⟨⟨ds', ρ', ha', hq⟩, hk⟩ := hq
      cases e <;> first
        | exact ⟨⟨ds', ρ', ha', hq⟩, hk.mono w1⟩
        | (refine wpIn_mono (den_sound hm nt an y r p2 n Q ds' ρ' w' a' hq ha') fun e a'' w'' hq => ?_
           exact ⟨hq.1, (hk.mono w1).trans (hq.2.mono w2)⟩)
  | .cond c x y, r, hp, n, Q, ds, ρ, w, a, h, ha => by
    simp only [den] at h
    have p1 : r = none ∨ plainC x = true := hp.imp id fun h => by simp only [plainC, Bool.and_eq_true] at h; exact h.1
    have p2 : r = none ∨ plainC y = true := hp.imp id fun h => by simp only [plainC, Bool.and_eq_true] at h; exact h.2
    have w1 : ∀ s, noW (.cond c x y) s = true → noW x s = true := fun s hs => by simp only [noW, Bool.and_eq_true] at hs; exact hs.1
    have w2 : ∀ s, noW (.cond c x y) s = true → noW y s = true := fun s hs => by simp only [noW, Bool.and_eq_true] at hs; exact hs.2
    cases hd : defd ρ c with
    | false => simp [hd] at h
    | true =>
      simp only [hd, cond_true] at h
      split at h
      · rename_i t ht
        have ht' : a.eval c = .bool t := by rw [← ha.eval hd]; exact ht
        rcases br_cases h with ⟨rfl, h⟩ | ⟨rfl, h⟩
        · exact wpIn_cond_true ht' (wpIn_mono (den_sound hm nt an x r p1 n Q ds ρ w a h ha) fun e a' w' hq => ⟨hq.1, hq.2.mono w1⟩)
        · exact wpIn_cond_false ht' (wpIn_mono (den_sound hm nt an y r p2 n Q ds ρ w a h ha) fun e a' w' hq => ⟨hq.1, hq.2.mono w2⟩)
      · exact h.elim
  | .block id c, r, hp, n, Q, ds, ρ, w, a, h, ha => by
    simp only [den] at h
    refine wpIn_block (wpIn_mono (den_sound hm nt an c r hp n _ ds ρ w a h ha) fun e a' w' hq => ?_)
    obtain ⟨⟨ds', ρ', ha', hq⟩, hk⟩ := hq
    cases e <;> try exact ⟨⟨ds', ρ', ha', hq⟩, hk⟩
    rename_i i
    simp only [Exit.inBlock]
    simp only at hq
    split at hq
    · rename_i hi
      rw [if_pos (Nat.eq_of_beq_eq_true hi)]
      exact ⟨⟨ds', ρ', ha', hq⟩, hk⟩
    · rename_i hi
      rw [if_neg (fun he => hi (by subst he; simp))]
      exact ⟨⟨ds', ρ', ha', hq⟩, hk⟩
  | .loop c, r, hp, n, Q, ds, ρ, w, a, h, ha => by
    simp only [den] at h
    split at h
    · rename_i L C hL
      cases hC : C.all (noW c) with
      | false => simp [hC] at h
      | true =>
        simp only [hC, cond_true] at h
        refine lp_sound (W := noW c) (fun K env w a' hb ha' hk => ?_) h ha
        refine wpIn_mono (den_sound hm nt an c r hp n _ ds _ w a' hb (ha'.more ha hk hC)) fun e a'' w' hq => ?_
        obtain ⟨⟨ds', ρ', ha'', hq⟩, hk'⟩ := hq
        cases e <;> first
          | exact ⟨⟨ds', ρ', ha'', hq⟩, hk.trans hk'⟩
          | (simp only at hq
             cases hds : ds' == ds with
             | false => simp [hds] at hq
             | true =>
               simp only [hds, cond_true] at hq
               obtain rfl : ds' = ds := by simpa using hds
               exact ⟨⟨ρ', ha'', hq⟩, hk.trans hk'⟩)
    · exact h.elim
  | .exit id, r, _, n, Q, ds, ρ, w, a, h, ha => wpIn_exit ⟨⟨ds, ρ, ha, h⟩, fun _ _ => rfl⟩
  | .ret, r, _, n, Q, ds, ρ, w, a, h, ha => wpIn_ret ⟨⟨ds, ρ, ha, h⟩, fun _ _ => rfl⟩
  | .scope c, r, hp, n, Q, ds, ρ, w, a, h, ha => by
    simp only [den] at h
    have hr : r = none := hp.resolve_right (by simp [plainC])
    subst hr
    refine wpIn_wide.2 (wp_scope_straight (wp_mono (wpIn_wide.1 (den_sound hm nt an c none (.inl rfl) n _ ds ρ w a h ha)) fun e a' w' hq => ?_))
    obtain ⟨⟨ds', ρ', ha', hq⟩, hk⟩ := hq
    cases e <;> first | exact ⟨⟨ds', ρ', ha', hq⟩, hk⟩ | exact hq.elim
  | .rangeFunc g ps assign body, r, hp, n, Q, ds, ρ, w, a, h, ha => by
    have hr : r = none := hp.resolve_right (by simp [plainC])
    subst hr
    exact rf_sound (fun l n Q ρ w a h ha hp => den_sound hm nt an assign (some l) (.inr hp) n Q [] ρ w a h ha) (fun l n Q ds ρ w a h ha hp => den_sound hm nt an body (some l) (.inr hp) n Q ds ρ w a h ha) h ha
  | .goto _, _, _, _, _, _, _, _, _, h, _ => h.elim
  | .refuse _, _, _, _, _, _, _, _, _, h, _ => h.elim

def resOf (a : Act) : ResultVar → Sem Value
  | .tmp t => pure (a.tmps.getD t undef)
  | .cell b t => do loadVar t (← asAddr (a.tmps.getD b undef))
theorem results_eq (fn : Func) (a : Act) : results fn a.tmps = (do let vs ← fn.results.mapM (resOf a); pure (if h : vs.size = 1 then vs[0] else .tuple vs)) := by
  unfold results
  congr 2
theorem res_sound {nt : Nat} {ρ : Env} {a : Act} {w : World} (ha : Ag nt ds ρ a) : ∀ {rs : List ResultVar} {K : List Value → Prop}, resDn P rs ρ w K →
    ∃ vs, K vs ∧ vs.length = rs.length ∧ (rs.mapM (resOf a)).run P w = .ok vs w
  | [], K, h => ⟨[], h, rfl, by simp⟩
  | .tmp t :: rs, K, h => by
    simp only [resDn] at h
    cases hd : defd ρ (.tmp t) with
    | false => simp [hd] at h
    | true =>
      simp only [hd, cond_true] at h
      obtain ⟨vs, hK, hl, hr⟩ := res_sound ha h
      refine ⟨_, hK, by simp [hl], ?_⟩
      rw [List.mapM_cons]
      simp only [resOf, Sem.run_bind, Sem.run_pure, Result.andThen_ok, hr]
      rw [ha.eval hd]
      rfl
  | .cell b t :: rs, K, h => by
    simp only [resDn] at h
    split at h
    · rename_i p hp
      cases p with
      | none => exact h.elim
      | some p =>
      obtain ⟨cs, h, hat, hld⟩ := ldT_sound h
      obtain ⟨vs, hK, hl, hr⟩ := res_sound ha h
      refine ⟨_, hK, by simp [hl], ?_⟩
      rw [List.mapM_cons]
      have h1 : (resOf a (.cell b t)).run P w = .ok (mkV (isAggT P t) cs) w := by
        simp only [resOf, Sem.run_bind, ha.val _ _ hp, asAddr, Sem.run_pure, Result.andThen_ok, hld w hat]
      simp only [Sem.run_bind, Sem.run_pure, Result.andThen_ok, h1, hr]
    · exact h.elim

theorem leaves_sound {fn : Func} {tmps : Array Value} {R : Ending → World → Prop} : ∀ {ds : List Nat} {w : World} {K : World → Prop}, endD ds w K →
    (∀ w', K w' → ∃ v, (results fn tmps).run P w' = .ok v w' ∧ R (.returned v) w') → LeavesInM Fence.wide 0 P fn tmps R (mks ds) .returning w
  | [], w, K, h, hK => hK w h
  | D :: ds, w, K, h, hK => by
    obtain ⟨h1, h2⟩ := h
    have hb : D < w.heap.size := (Array.getElem?_eq_some_iff.1 h1).1
    exact ⟨by simp, .inl ⟨D, _, rfl, run_takeDeferred h1, leaves_sound (h2 _ ⟨rfl, rfl, rfl, World.putObj_size, fun i hi => World.putObj_heap_other hi⟩) hK⟩⟩
theorem denF_sound (hm : P.follows .mixedOrders = true) {f : FuncId} {fn : Func} (hf : P.funcs[f]? = some fn) {an : An} {args : List Value} {w : World} {Q : Value → World → Prop} (h : denF P an fn args w Q) :
    callP P f args.toArray w Q := by
  unfold denF at h
  cases hb : fn.body with
  | none => simp [hb] at h
  | some c =>
    simp only [hb] at h
    split at h
    · rename_i hle
      have hle' : args.length ≤ fn.ntmps := by simpa using hle
      unfold callP
      refine callsIn_wide (n := 0).1 (callsIn_of_wp_marks hf hb trivial ?_)
      have ha : Ag fn.ntmps [] (argsE 0 args) { tmps := args.toArray ++ Array.replicate (fn.ntmps - args.toArray.size) undef, defers := [] } := by
        refine ⟨by simp; omega, rfl, ?_⟩
        have key : ∀ (l : List Value) (i : Nat) (t : Nat) (v : Value), look (argsE i l) t = some v → ∃ j, t = i + j ∧ l[j]? = some v := by
          intro l
          induction l with
          | nil => intro i t v h; simp [argsE, look] at h
          | cons x l ih =>
            intro i t v h
            simp only [argsE, look_cons] at h
            split at h
            · rename_i he
              exact ⟨0, by omega, by simpa using h⟩
            · obtain ⟨j, rfl, hj⟩ := ih _ _ _ h
              exact ⟨j + 1, by omega, by simpa using hj⟩
        intro t v hv
        obtain ⟨j, rfl, hj⟩ := key _ _ _ _ hv
        have hlt : j < args.length := by
          rcases Nat.lt_or_ge j args.length with h | h
          · exact h
          · rw [List.getElem?_eq_none h] at hj; simp at hj
        rw [Nat.zero_add, Array.getD_eq_getD_getElem?, Array.getElem?_append_left (by simpa using hlt)]
        simp [hj]
      refine wpIn_mono (den_sound hm _ an c none (.inl rfl) 0 _ [] _ w _ h ha) fun e a' w' hq => ?_
      obtain ⟨⟨ds, ρ', ha', hq⟩, _⟩ := hq
      have fin : endD ds w' (fun w' => resDn P fn.results.toList ρ' w' fun vs => Q (oneV vs) w') → LeavesInM Fence.wide 0 P fn a'.tmps (fun e w' => ∃ u, e = .returned u ∧ Q u w') a'.defers .returning w' := by
        intro hr
        rw [ha'.defers]
        exact leaves_sound hr fun w'' hr => by
          obtain ⟨vs, hQ, hl, hr⟩ := res_sound ha' hr
          refine ⟨oneV vs, ?_, _, rfl, hQ⟩
          rw [results_eq]
          simp only [Array.mapM_eq_mapM_toList, Functor.map, Sem.run_bind]
          rw [Sem.run_bind', hr]
          simp only [Result.andThen_ok, Function.comp]
          have hone : (if h : vs.toArray.size = 1 then vs.toArray[0] else Value.tuple vs.toArray) = oneV vs := by
            match vs with
            | [] => rfl
            | [v] => rfl
            | _ :: _ :: _ => rfl
          rw [← hone]
          rfl
      cases e <;> first | exact hq.elim | exact fin hq
    · exact h.elim
end Go.Proofs.YtpcgkfgppfjnlaaGreatDoor.V
namespace Go.Proofs.YtpcgkfgppfjnlaaGreatDoor.V
open Go Go.RowKit
variable {P : Program}

/-- from w to w' nothing that lay has turned, but for the blocks of S -/
structure Fr (S : Nat → Prop) (w w' : World) : Prop where
  os : w'.os = w.os
  tape : w'.tape = w.tape
  output : w'.output = w.output
  size : w.heap.size ≤ w'.heap.size
  keep : ∀ b, b < w.heap.size → ¬ S b → w'.heap[b]? = w.heap[b]?
abbrev F0 : Nat → Prop := fun _ => False
theorem Fr.refl {S : Nat → Prop} (w : World) : Fr S w w := ⟨rfl, rfl, rfl, Nat.le_refl _, fun _ _ _ => rfl⟩
theorem Fr.mono {S T : Nat → Prop} {w w' : World} (h : Fr S w w') (hs : ∀ b, b < w.heap.size → S b → T b) : Fr T w w' :=
  ⟨h.os, h.tape, h.output, h.size, fun b hb ht => h.keep b hb fun x => ht (hs b hb x)⟩
/-- the second step may turn what is new, besides -/
theorem Fr.trans {S T : Nat → Prop} {w w1 w2 : World} (h : Fr S w w1) (h2 : Fr T w1 w2) (ht : ∀ b, b < w.heap.size → T b → S b) : Fr S w w2 :=
  ⟨h2.os.trans h.os, h2.tape.trans h.tape, h2.output.trans h.output, Nat.le_trans h.size h2.size, fun b hb hs => by
    rw [h2.keep b (Nat.lt_of_lt_of_le hb h.size) fun x => hs (ht b hb x), h.keep b hb hs]⟩
theorem Fr.trans0 {S : Nat → Prop} {w w1 w2 : World} (h : Fr S w w1) (h2 : Fr F0 w1 w2) : Fr S w w2 := h.trans h2 fun _ _ x => x.elim
theorem Fr.below {w w' : World} (h : Fr F0 w w') : Below w.heap.size w w' := ⟨h.os, h.tape, h.output, h.size, fun k hk => h.keep k hk id⟩
theorem Fr.drw {S : Nat → Prop} {w w' : World} (h : Fr S w w') (n : Nat) : Fr S w (drw w' n) := ⟨h.os, h.tape, h.output, h.size, h.keep⟩

theorem Fr.drw' {S : Nat → Prop} {w w' : World} {n : Nat} (h : Fr S (V.drw w n) w') : Fr S w w' := ⟨h.os, h.tape, h.output, h.size, h.keep⟩
/-- a block of cells that may be written -/
def Own (w : World) (b : Nat) (cs : List Value) : Prop := ∃ t lo hi, w.heap[b]? = some (.cells cs.toArray t (lo, hi)) ∧ (cs.length ≤ lo ∨ hi ≤ lo)
theorem Own.lt {w : World} {b : Nat} {cs : List Value} (h : Own w b cs) : b < w.heap.size := by
  obtain ⟨t, lo, hi, h, _⟩ := h
  rcases Nat.lt_or_ge b w.heap.size with h1 | h1
  · exact h1
  · rw [Array.getElem?_eq_none h1] at h; simp at h
theorem Own.fr {S : Nat → Prop} {w w' : World} {b : Nat} {cs : List Value} (h : Own w b cs) (hf : Fr S w w') (hs : ¬ S b) : Own w' b cs := by
  have hlt := h.lt
  obtain ⟨t, lo, hi, h, h2⟩ := h
  exact ⟨t, lo, hi, by rw [hf.keep b hlt hs]; exact h, h2⟩
theorem Own.cell {w : World} {b : Nat} {cs : List Value} (h : Own w b cs) {o : Nat} {v : Value} (hv : cs[o]? = some v) : w.cell? ⟨b, o, none⟩ = some v := by
  obtain ⟨t, lo, hi, h, _⟩ := h
  simp [World.cell?, h, hv]

theorem add_lit (b o n : Nat) : Addr.add ⟨b, o, none⟩ n = ⟨b, o + n, none⟩ := by
  unfold Addr.add
  split
  · rename_i h; subst h; rfl
  · rfl
theorem add_add (p : Addr) (m n : Nat) (hp : p.spot = none) : (p.add m).add n = p.add (m + n) := by
  obtain ⟨b, o, s⟩ := p
  simp only at hp
  subst hp
  rw [add_lit, add_lit, add_lit]
  simp [Nat.add_assoc]

/-- what lies in an owned block reads so -/
theorem Own.at {w : World} {b : Nat} {cs : List Value} (h : Own w b cs) : ∀ {vs : List Value} {o k : Nat}, (∀ i, i < vs.length → cs[o + k + i]? = vs[i]?) → atC w ⟨b, o, none⟩ k vs
  | [], _, _, _ => trivial
  | v :: vs, o, k, hv => by
    refine ⟨?_, ?_⟩
    · rw [add_lit]
      exact h.cell (by simpa using hv 0 (by simp))
    · refine h.at fun i hi => ?_
      have := hv (i + 1) (by simpa using hi)
      rw [show o + (k + 1) + i = o + k + (i + 1) by omega]
      simpa using this
/-- a reading stands where its block was let be -/
theorem cell_fr {S : Nat → Prop} {w w' : World} (hf : Fr S w w') {p : Addr} {v : Value} (hs : ¬ S p.block) (h : w.cell? p = some v) : w'.cell? p = some v := by
  have hlt : p.block < w.heap.size := by
    rcases Nat.lt_or_ge p.block w.heap.size with h1 | h1
    · exact h1
    · simp [World.cell?, Array.getElem?_eq_none h1] at h
  unfold World.cell? at h ⊢
  rw [hf.keep p.block hlt hs]
  exact h
theorem add_block (p : Addr) (n : Nat) : (p.add n).block = p.block := by
  unfold Addr.add; split <;> rfl
theorem atC.fr {S : Nat → Prop} {w w' : World} (hf : Fr S w w') {p : Addr} (hs : ¬ S p.block) : ∀ {vs : List Value} {o : Nat}, atC w p o vs → atC w' p o vs
  | [], _, _ => trivial
  | _ :: _, _, h => ⟨cell_fr hf (by rw [add_block]; exact hs) h.1, atC.fr hf hs h.2⟩

/-! the rules -/
theorem br_of {t : Bool} {A B : Prop} (h1 : t = true → A) (h2 : t = false → B) : br t A B := by
  cases t
  · exact h2 rfl
  · exact h1 rfl
theorem br_dec {p : Prop} [Decidable p] {A B : Prop} (h1 : p → A) (h2 : ¬ p → B) : br (decide p) A B :=
  br_of (fun h => h1 (of_decide_eq_true h)) fun h => h2 (of_decide_eq_false h)
theorem br_eq {x y : Int} {A B : Prop} (h1 : x = y → A) (h2 : x ≠ y → B) : br (x == y) A B :=
  br_of (fun h => h1 (by simpa using h)) fun h => h2 (by simpa using h)
theorem br_ne {x y : Int} {A B : Prop} (h1 : x ≠ y → A) (h2 : x = y → B) : br (x != y) A B :=
  br_of (fun h => h1 (by simpa using h)) fun h => h2 (by simpa using h)
theorem br_not {t : Bool} {A B : Prop} (h : br t B A) : br (!t) A B := by cases t <;> exact h
theorem br_true {t : Bool} {A B : Prop} (ht : t = true) (h : A) : br t A B := by subst ht; exact h
theorem br_false {t : Bool} {A B : Prop} (ht : t = false) (h : B) : br t A B := by subst ht; exact h

theorem rd_of {k : Kd} {w : World} {p : Addr} {o : Nat} {K : KT k → Prop} (x : KT k) (h : atC w p o (cellsK k x)) (hK : K x) : rd k w p o K := ⟨x, h, hK⟩
theorem rd_cell {k : Kd} {w : World} {p : Addr} {K : KT k → Prop} (x : KT k) {v : Value} (hv : cellsK k x = [v]) (h : w.cell? p = some v) (hK : K x) : rd k w p 0 K :=
  ⟨x, by rw [hv]; exact ⟨h, trivial⟩, hK⟩

theorem alloc_get (w : World) (o : Obj) : (w.alloc o).heap[w.heap.size]? = some o := by unfold World.alloc; simp
theorem alloc_fr (w : World) (o : Obj) : Fr F0 w (w.alloc o) :=
  ⟨rfl, rfl, rfl, by unfold World.alloc; simp, fun b hb _ => by unfold World.alloc; simp only; rw [Array.getElem?_push_lt hb, Array.getElem?_eq_getElem hb]⟩
/-- a new block of cells -/
theorem al_cells {w : World} {cs : List Value} {t : TypeId} {K : Nat → World → Prop} (h : ∀ b w', b = w.heap.size → Fr F0 w w' → w'.heap.size = b + 1 → Own w' b cs → K b w') : al w (.cells cs.toArray t) K :=
  h _ _ rfl (alloc_fr w _) (by unfold World.alloc; simp) ⟨t, 0, 0, alloc_get w _, .inr (Nat.le_refl _)⟩
theorem al_obj {w : World} {o : Obj} {K : Nat → World → Prop} (h : ∀ b w', b = w.heap.size → Fr F0 w w' → w'.heap.size = b + 1 → w'.heap[b]? = some o → K b w') : al w o K :=
  h _ _ rfl (alloc_fr w _) (by unfold World.alloc; simp) (alloc_get w _)

/-- the rule of a call: its contract, and what follows -/
theorem callP_of {f : FuncId} {args : Array Value} {w : World} {R K : Value → World → Prop} (h : callP P f args w R) (hk : ∀ v w', R v w' → K v w') : callP P f args w K := callP_mono h hk

theorem setCell_get {w : World} {b o : Nat} {v : Value} {i : Nat} : (w.setCell ⟨b, o, none⟩ v).heap[i]? = if b = i then (w.heap[i]?).map (fun
      | .cells c elem frozen => .cells (c.setIfInBounds o v) elem frozen
      | o => o) else w.heap[i]? := by
  simp only [World.setCell, Array.getElem?_modify]
  split
  · congr 1
  · rfl
/-- a row of stores into an owned block -/
theorem wrs_own {b : Nat} {o : Nat} : ∀ (vs : List Value) (k : Nat) (w : World) (cs : List Value), Own w b cs → o + k + vs.length ≤ cs.length → (∀ v ∈ vs, scal v = true) →
    wrOk w ⟨b, o, none⟩ k vs ∧ Fr (· = b) w (wrs w ⟨b, o, none⟩ k vs) ∧ Own (wrs w ⟨b, o, none⟩ k vs) b (cs.take (o + k) ++ vs ++ cs.drop (o + k + vs.length)) ∧ (wrs w ⟨b, o, none⟩ k vs).heap.size = w.heap.size
  | [], k, w, cs, h, _, _ => ⟨trivial, Fr.refl _, by simpa [wrs] using h, rfl⟩
  | v :: vs, k, w, cs, h, hl, hv => by
    have hlt : o + k < cs.length := by simp at hl; omega
    have hsz : (w.setCell ⟨b, o + k, none⟩ v).heap.size = w.heap.size := by simp [World.setCell]
    have hfr : Fr (· = b) w (w.setCell ⟨b, o + k, none⟩ v) := ⟨rfl, rfl, rfl, by rw [hsz]; exact Nat.le_refl _, fun i _ hn => by
      rw [setCell_get, if_neg fun e => hn e.symm]⟩
    have hown : Own (w.setCell ⟨b, o + k, none⟩ v) b (cs.set (o + k) v) := by
      obtain ⟨t, lo, hi, hb, hz⟩ := h
      exact ⟨t, lo, hi, by rw [setCell_get, if_pos rfl, hb]; simp, by simpa using hz⟩
    have hcell : ∃ u, w.cell? (Addr.add ⟨b, o, none⟩ k) = some u := by
      rw [add_lit]
      exact ⟨_, h.cell (List.getElem?_eq_getElem hlt)⟩
    have hfz : w.frozen? (Addr.add ⟨b, o, none⟩ k) = false := by
      obtain ⟨t, lo, hi, hb, hz⟩ := h
      rw [add_lit]
      simp only [World.frozen?, hb]
      rcases hz with hz | hz
      · have : ¬ lo ≤ o + k := by omega
        simp [this]
      · by_cases h1 : lo ≤ o + k
        · have : ¬ o + k < hi := by omega
          simp [this]
        · simp [h1]
    obtain ⟨g1, g2, g3, g4⟩ := wrs_own (o := o) vs (k + 1) (w.setCell ⟨b, o + k, none⟩ v) (cs.set (o + k) v) hown (by simp at hl ⊢; omega) fun u hu => hv u (by simp [hu])
    have hwok : wrOk w ⟨b, o, none⟩ (k + 1) vs := by
      have : ∀ (vs : List Value) (j : Nat), o + j + vs.length ≤ cs.length → (∀ v ∈ vs, scal v = true) → wrOk w ⟨b, o, none⟩ j vs := by
        intro vs
        induction vs with
        | nil => intro _ _ _; trivial
        | cons u vs ih =>
          intro j hj hs
          have hjl : o + j < cs.length := by simp at hj; omega
          refine ⟨hs u (by simp), ⟨_, by rw [add_lit]; exact h.cell (List.getElem?_eq_getElem hjl)⟩, ?_, ih (j + 1) (by simp at hj; omega) fun x hx => hs x (by simp [hx])⟩
          obtain ⟨t, lo, hi, hb, hz⟩ := h
          rw [add_lit]
          simp only [World.frozen?, hb]
          rcases hz with hz | hz
          · have : ¬ lo ≤ o + j := by omega
            simp [this]
          · by_cases h1 : lo ≤ o + j
            · have : ¬ o + j < hi := by omega
              simp [this]
            · simp [h1]
      exact this vs (k + 1) (by simp at hl; omega) fun u hu => hv u (by simp [hu])
    refine ⟨⟨hv v (by simp), hcell, hfz, hwok⟩, ?_, ?_, ?_⟩
    · simp only [wrs, add_lit]
      exact hfr.trans g2 fun _ _ x => x
    · simp only [wrs, add_lit]
      have e : (cs.set (o + k) v).take (o + (k + 1)) ++ vs ++ (cs.set (o + k) v).drop (o + (k + 1) + vs.length) = cs.take (o + k) ++ (v :: vs) ++ cs.drop (o + k + (v :: vs).length) := by
        have e1 : (cs.set (o + k) v).take (o + (k + 1)) = cs.take (o + k) ++ [v] := by
          rw [show o + (k + 1) = o + k + 1 by omega, List.take_succ_eq_append_getElem (by simpa using hlt)]
          simp [List.take_set]
          rw [List.set_eq_of_length_le (by simp; omega)]
        have e2 : (cs.set (o + k) v).drop (o + (k + 1) + vs.length) = cs.drop (o + k + (v :: vs).length) := by
          rw [List.drop_set_of_lt (by omega)]
          congr 1
          simp; omega
        rw [e1, e2]
        simp
      rw [e] at g3
      exact g3
    · simp only [wrs, add_lit]
      rw [g4, hsz]
theorem wr_own {w : World} {b o : Nat} {vs cs : List Value} {K : World → Prop} (h : Own w b cs) (hl : o + vs.length ≤ cs.length) (hv : ∀ v ∈ vs, scal v = true)
    (hK : ∀ w', Fr (· = b) w w' → Own w' b (cs.take o ++ vs ++ cs.drop (o + vs.length)) → w'.heap.size = w.heap.size → K w') : wr w ⟨b, o, none⟩ vs K := by
  obtain ⟨h1, h2, h3, h4⟩ := wrs_own (o := o) vs 0 w cs h (by simpa using hl) hv
  exact ⟨h1, hK _ h2 (by simpa using h3) h4⟩
/-- one store into an owned block -/
theorem wr_one {w : World} {b o : Nat} {v : Value} {cs : List Value} {K : World → Prop} (h : Own w b cs) (hl : o < cs.length) (hv : scal v = true)
    (hK : ∀ w', Fr (· = b) w w' → Own w' b (cs.set o v) → w'.heap.size = w.heap.size → K w') : wr w ⟨b, o, none⟩ [v] K := by
  refine wr_own h (by simp; omega) (by simpa using hv) fun w' h1 h2 h3 => hK w' h1 ?_ h3
  have e : cs.take o ++ [v] ++ cs.drop (o + [v].length) = cs.set o v := by
    rw [List.set_eq_take_append_cons_drop, if_pos hl]
    simp
  rw [← e]
  exact h2
end Go.Proofs.YtpcgkfgppfjnlaaGreatDoor.V
namespace Go.Proofs.YtpcgkfgppfjnlaaGreatDoor.V
open Go Go.RowKit
variable {P : Program}

/-- what a block holds: cells that may be written, or anything -/
inductive Bk where
  | cs (l : List Value)
  | ob (o : Obj)
def Has (w : World) (b : Nat) : Bk → Prop
  | .cs l => Own w b l
  | .ob o => w.heap[b]? = some o
theorem Has.lt {w : World} {b : Nat} {x : Bk} (h : Has w b x) : b < w.heap.size := by
  cases x with
  | cs l => exact Own.lt h
  | ob o =>
    rcases Nat.lt_or_ge b w.heap.size with h1 | h1
    · exact h1
    · have h : w.heap[b]? = some o := h
      rw [Array.getElem?_eq_none h1] at h; simp at h
theorem Has.fr {S : Nat → Prop} {w w' : World} {b : Nat} {x : Bk} (h : Has w b x) (hf : Fr S w w') (hs : ¬ S b) : Has w' b x := by
  have hlt := h.lt
  cases x with
  | cs l => exact Own.fr h hf hs
  | ob o =>
    have h : w.heap[b]? = some o := h
    exact (hf.keep b hlt hs).trans h

structure Lo (S : Nat → Prop) (w0 w : World) (L : List (Nat × Bk)) : Prop where
  fr : Fr S w0 w
  has : ∀ p ∈ L, Has w p.1 p.2
  new : ∀ p ∈ L, S p.1 ∨ w0.heap.size ≤ p.1
  nd : (L.map (·.1)).Nodup
variable {S : Nat → Prop} {w0 w : World} {L : List (Nat × Bk)}
theorem Lo.start {S : Nat → Prop} (w : World) : Lo S w w [] := ⟨.refl w, by simp, by simp, by simp⟩
/-- a block that may be turned -/
theorem Lo.start1 {S : Nat → Prop} {w : World} {b : Nat} {x : Bk} (hs : S b) (h : Has w b x) : Lo S w w [(b, x)] := ⟨.refl w, by simpa using h, by simpa using .inl hs, by simp⟩
theorem Lo.drw (m : Lo S w0 w L) (n : Nat) : Lo S w0 (drw w n) L := ⟨m.fr.drw n, m.has, m.new, m.nd⟩
theorem Lo.dr (m : Lo S w0 w L) {K : World → Prop} (h : ∀ w', Lo S w0 w' L → K w') : dr w K := h _ (m.drw _)
theorem Lo.keep (m : Lo S w0 w L) {w' : World} (h : Fr F0 w w') : Lo S w0 w' L :=
  ⟨m.fr.trans0 h, fun p hp => (m.has p hp).fr h id, m.new, m.nd⟩
theorem Lo.lt (m : Lo S w0 w L) {p : Nat × Bk} (h : p ∈ L) : p.1 < w.heap.size := (m.has p h).lt
theorem Lo.push (m : Lo S w0 w L) {w' : World} {b : Nat} {x : Bk} (hb : w.heap.size ≤ b) (hf : Fr F0 w w') (h : Has w' b x) : Lo S w0 w' ((b, x) :: L) := by
  have k := m.keep hf
  refine ⟨k.fr, ?_, ?_, ?_⟩
  · intro p hp
    rcases List.mem_cons.mp hp with rfl | hp
    · exact h
    · exact k.has p hp
  · intro p hp
    rcases List.mem_cons.mp hp with rfl | hp
    · exact .inr (Nat.le_trans m.fr.size hb)
    · exact k.new p hp
  · simp only [List.map_cons, List.nodup_cons]
    refine ⟨?_, m.nd⟩
    intro hm
    obtain ⟨q, hq, he⟩ := List.mem_map.mp hm
    have := m.lt hq
    omega
theorem Lo.al (m : Lo S w0 w L) {cs : List Value} {t : TypeId} {K : Nat → World → Prop} (h : ∀ b w', w.heap.size = b → Lo S w0 w' ((b, .cs cs) :: L) → K b w') : al w (.cells cs.toArray t) K :=
  al_cells fun b w' hb hf _ ho => h b w' hb.symm (m.push (by omega) hf ho)
theorem Lo.alo (m : Lo S w0 w L) {o : Obj} {K : Nat → World → Prop} (h : ∀ b w', w.heap.size = b → Lo S w0 w' ((b, .ob o) :: L) → K b w') : V.al w o K :=
  al_obj fun b w' hb hf _ ho => h b w' hb.symm (m.push (by omega) hf ho)
theorem Lo.at (m : Lo S w0 w L) (i : Nat) {b : Nat} {x : Bk} (h : L[i]? = some (b, x)) : Has w b x := m.has _ (List.mem_of_getElem? h)
/-- one block turned -/
theorem Lo.turn (m : Lo S w0 w L) (i : Nat) {w' : World} {b : Nat} {x y : Bk} (h : L[i]? = some (b, x)) (hf : Fr (· = b) w w') (hy : Has w' b y) : Lo S w0 w' (L.set i (b, y)) := by
  have hm := List.mem_of_getElem? h
  have hlt : i < L.length := by
    rcases Nat.lt_or_ge i L.length with h1 | h1
    · exact h1
    · rw [List.getElem?_eq_none h1] at h; simp at h
  have he : L[i] = (b, x) := by rw [List.getElem?_eq_getElem hlt] at h; simpa using h
  have hmap : (L.set i (b, y)).map (·.1) = L.map (·.1) := by
    rw [List.map_set]
    apply List.ext_getElem? ; intro j
    rw [List.getElem?_set]
    split
    · rename_i hj; subst hj
      simp [hlt, he]
    · rfl
  have hn : ∀ j p, L[j]? = some p → p.1 = b → j = i := by
    intro j p hj hp
    have hnd := m.nd
    have h1 : (L.map (·.1))[j]? = some b := by simp [hj, hp]
    have h2 : (L.map (·.1))[i]? = some b := by simp [h]
    exact (List.getElem?_inj (by
      rcases Nat.lt_or_ge j (L.map (·.1)).length with h3 | h3
      · exact h3
      · rw [List.getElem?_eq_none h3] at h1; simp at h1) hnd).mp (h1.trans h2.symm)
  refine ⟨m.fr.trans hf fun c hc e => ?_, ?_, ?_, by rw [hmap]; exact m.nd⟩
  · subst e
    rcases m.new _ hm with h1 | h1
    · exact h1
    · have : w0.heap.size ≤ c := h1
      omega
  · intro p hp
    obtain ⟨j, hj⟩ := List.getElem?_of_mem hp
    rw [List.getElem?_set] at hj
    by_cases hij : i = j
    · rw [if_pos hij, if_pos hlt] at hj
      obtain rfl : (b, y) = p := by simpa using hj
      exact hy
    · rw [if_neg hij] at hj
      have hp' : p ∈ L := List.mem_of_getElem? hj
      exact (m.has p hp').fr hf fun e => hij (hn j p hj e).symm
  · intro p hp
    rcases List.mem_or_eq_of_mem_set hp with h1 | rfl
    · exact m.new p h1
    · exact m.new (b, x) hm
theorem Lo.wr (m : Lo S w0 w L) (i : Nat) {b o : Nat} {cs vs : List Value} {K : World → Prop} (h : L[i]? = some (b, .cs cs)) (hl : o + vs.length ≤ cs.length) (hv : ∀ v ∈ vs, scal v = true)
    (hK : ∀ w', Lo S w0 w' (L.set i (b, .cs (cs.take o ++ vs ++ cs.drop (o + vs.length)))) → K w') : wr w ⟨b, o, none⟩ vs K :=
  wr_own (m.at i h) hl hv fun w' h1 h2 _ => hK w' (m.turn i h h1 h2)
theorem Lo.wr1 (m : Lo S w0 w L) (i : Nat) {b o : Nat} {cs : List Value} {v : Value} {K : World → Prop} (h : L[i]? = some (b, .cs cs)) (hl : o < cs.length) (hv : scal v = true)
    (hK : ∀ w', Lo S w0 w' (L.set i (b, .cs (cs.set o v))) → K w') : V.wr w ⟨b, o, none⟩ [v] K :=
  wr_one (m.at i h) hl hv fun w' h1 h2 _ => hK w' (m.turn i h h1 h2)

/-! rows of numbers -/
theorem cellsA_len (k : IntKind) (d : Nat → Int) : ∀ n i, (cellsA k d i n).length = n
  | 0, _ => rfl
  | n + 1, i => by simp [cellsA, cellsA_len k d n (i + 1)]
theorem cellsA_get (k : IntKind) (d : Nat → Int) : ∀ n i j, (cellsA k d i n)[j]? = if j < n then some (.int k (d (i + j))) else none
  | 0, _, _ => by simp [cellsA]
  | n + 1, i, 0 => by simp [cellsA]
  | n + 1, i, j + 1 => by
    simp only [cellsA, List.getElem?_cons_succ, cellsA_get k d n (i + 1) j, Nat.add_lt_add_iff_right]
    rw [show i + 1 + j = i + (j + 1) by omega]
def upd (d : Nat → Int) (i : Nat) (v : Int) : Nat → Int := fun j => if j = i then v else d j
theorem upd_at (d : Nat → Int) (i : Nat) (v : Int) : upd d i v i = v := by simp [upd]
theorem upd_ne (d : Nat → Int) (i : Nat) (v : Int) (j : Nat) (h : j ≠ i) : upd d i v j = d j := by simp [upd, h]
theorem cellsA_set (k : IntKind) (d : Nat → Int) (n j : Nat) (v : Int) : (cellsA k d 0 n).set j (.int k v) = cellsA k (upd d j v) 0 n := by
  apply List.ext_getElem?; intro i
  rw [List.getElem?_set, cellsA_get, cellsA_get, cellsA_len]
  by_cases h : j = i
  · subst h; simp [upd]
  · have : i ≠ j := fun e => h e.symm
    simp [h, upd, this]
theorem cellsA_scal (k : IntKind) (d : Nat → Int) (n i : Nat) : ∀ v ∈ cellsA k d i n, scal v = true := by
  intro v hv
  obtain ⟨j, hj⟩ := List.getElem?_of_mem hv
  rw [cellsA_get] at hj
  split at hj
  · simp at hj; subst hj; rfl
  · simp at hj
theorem cellsA_ext {k : IntKind} {d e : Nat → Int} {n : Nat} (h : ∀ i, i < n → d i = e i) : cellsA k d 0 n = cellsA k e 0 n := by
  apply List.ext_getElem?; intro i
  rw [cellsA_get, cellsA_get]
  split
  · rw [Nat.zero_add, h i ‹_›]
  · rfl
theorem cellsA_inj {k : IntKind} {d e : Nat → Int} {n : Nat} (h : cellsA k d 0 n = cellsA k e 0 n) : ∀ i, i < n → d i = e i := by
  intro i hi
  have := congrArg (·[i]?) h
  simp only [cellsA_get, hi, if_true, Nat.zero_add] at this
  simpa using this
theorem arrV_inj {k : IntKind} {d e : Nat → Int} {n : Nat} (h : arrV k n d = arrV k n e) : ∀ i, i < n → d i = e i := by
  refine cellsA_inj (k := k) ?_
  simpa [arrV] using h
theorem arrV_ext {k : IntKind} {d e : Nat → Int} {n : Nat} (h : ∀ i, i < n → d i = e i) : arrV k n d = arrV k n e := by
  rw [arrV, arrV, cellsA_ext h]

/-- a cell of a block at hand -/
theorem Lo.rd1 (m : Lo S w0 w L) (i : Nat) {k : IntKind} {b o : Nat} {cs : List Value} {K : Int → Prop} (h : L[i]? = some (b, .cs cs)) {x : Int} (hx : cs[o]? = some (.int k x)) (hK : K x) :
    rd (.int k) w ⟨b, o, none⟩ 0 K :=
  rd_of (k := .int k) x (Own.at (m.at i h) (by intro j hj; simp [cellsK] at hj; subst hj; simpa [cellsK] using hx)) hK
/-- one number of a row at hand -/
theorem Lo.rda (m : Lo S w0 w L) (i : Nat) {k : IntKind} {n b o : Nat} {d : Nat → Int} {K : Int → Prop} (h : L[i]? = some (b, .cs (cellsA k d 0 n))) (ho : o < n) (hK : K (d o)) :
    rd (.int k) w ⟨b, o, none⟩ 0 K := m.rd1 i h (by rw [cellsA_get, if_pos ho, Nat.zero_add]) hK
/-- the whole row -/
theorem Lo.rdA (m : Lo S w0 w L) (i : Nat) {k : IntKind} {n b : Nat} {d : Nat → Int} {K : (Nat → Int) → Prop} (h : L[i]? = some (b, .cs (cellsA k d 0 n))) (hK : K d) :
    rd (.arr k n) w ⟨b, 0, none⟩ 0 K :=
  rd_of (k := .arr k n) d (Own.at (m.at i h) (by intro j hj; simp [cellsK])) hK
theorem Lo.wra (m : Lo S w0 w L) (i : Nat) {k : IntKind} {n b o : Nat} {d : Nat → Int} {v : Int} {K : World → Prop} (h : L[i]? = some (b, .cs (cellsA k d 0 n))) (ho : o < n)
    (hK : ∀ w', Lo S w0 w' (L.set i (b, .cs (cellsA k (upd d o v) 0 n))) → K w') : V.wr w ⟨b, o, none⟩ [.int k v] K :=
  m.wr1 i h (by rw [cellsA_len]; exact ho) rfl fun w' m' => hK w' (by rw [← cellsA_set]; exact m')
theorem Lo.wrA (m : Lo S w0 w L) (i : Nat) {k : IntKind} {n b : Nat} {d e : Nat → Int} {K : World → Prop} (h : L[i]? = some (b, .cs (cellsA k d 0 n)))
    (hK : ∀ w', Lo S w0 w' (L.set i (b, .cs (cellsA k e 0 n))) → K w') : V.wr w ⟨b, 0, none⟩ (cellsA k e 0 n) K :=
  m.wr i h (by simp [cellsA_len]) (cellsA_scal k e n 0) fun w' m' => hK w' (by
    simpa [cellsA_len, List.drop_eq_nil_of_le] using m')

theorem br_lt {x y : Int} {A B : Prop} (h1 : x < y → A) (h2 : ¬ x < y → B) : br (decide (x < y)) A B := br_dec h1 h2
theorem br_gt {x y : Int} {A B : Prop} (h1 : x > y → A) (h2 : ¬ x > y → B) : br (decide (x > y)) A B := br_dec h1 h2
theorem br_le {x y : Int} {A B : Prop} (h1 : x ≤ y → A) (h2 : ¬ x ≤ y → B) : br (decide (x ≤ y)) A B := br_dec h1 h2
theorem br_ge {x y : Int} {A B : Prop} (h1 : x ≥ y → A) (h2 : ¬ x ≥ y → B) : br (decide (x ≥ y)) A B := br_dec h1 h2

/-! numbers' kinds -/
theorem w_i64 {x : Int} (h : -9223372036854775808 ≤ x) (h2 : x < 9223372036854775808) : IntKind.wrap .i64 x = x := by
  show (if (true && decide (x % (18446744073709551616 : Int) ≥ (9223372036854775808 : Int))) = true then x % (18446744073709551616 : Int) - (18446744073709551616 : Int) else x % (18446744073709551616 : Int)) = x
  by_cases h3 : x % 18446744073709551616 ≥ 9223372036854775808
  · rw [if_pos (by simpa using h3)]; omega
  · rw [if_neg (by simpa using h3)]; omega
theorem w_u64 {x : Int} : IntKind.wrap .u64 x = x % 18446744073709551616 := by
  simp [IntKind.wrap, IntKind.bits, IntKind.signed]
theorem w_u32 {x : Int} : IntKind.wrap .u32 x = x % 4294967296 := by
  simp [IntKind.wrap, IntKind.bits, IntKind.signed]
theorem w_u8 {x : Int} : IntKind.wrap .u8 x = x % 256 := by
  simp [IntKind.wrap, IntKind.bits, IntKind.signed]
def U64 (d : Nat → Int) (n : Nat) : Prop := ∀ i, i < n → 0 ≤ d i ∧ d i < 18446744073709551616
end Go.Proofs.YtpcgkfgppfjnlaaGreatDoor.V
