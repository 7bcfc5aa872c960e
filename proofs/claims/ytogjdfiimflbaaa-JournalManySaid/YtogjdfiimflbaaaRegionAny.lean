/-
  A region that draws its order, by assertions: each operation leaves a value of which an assertion holds that no growth of memory undoes; each waits for those whose values it reads. Over whatever program. Condition: each step's own.
-/
import Derived.Test.YtogjdfiimflbaaaMem
namespace Go.Proofs.Ytogjdfiimflbaaa
open Go Go.RowKit

def dstAt (a : Act) : Option Tmp → Value
  | some d => a.tmps.getD d undef
  | none => undef
def Stood (V : Value → World → Prop) (ds : List Deferred) (w : World) (dst : Option Tmp) (e : Exit) (a' : Act) (w' : World) : Prop :=
  e = .normal ∧ a'.defers = ds ∧ V (dstAt a' dst) w' ∧ Below w.heap.size w w'
def waits (o : Oper) (j : Nat) : Bool := o.after.any fun e => Region.binds .any e && e.on == j
def StepsAt (P : Program) (ops : Array Oper) (V : Nat → Value → World → Prop) (ds : List Deferred) (w0 : World) : List Oper → Nat → ((Nat → Value) → Act) → Prop
  | [], _, _ => True
  | o :: l, k, mk => (∀ (vs : Nat → Value) (w : World), Below w0.heap.size w0 w → (∀ j, waits o j = true → V j (vs j) w) → wpList P ops (Stood (V k) ds w o.dst) [o] (mk vs) w) ∧
      StepsAt P ops V ds w0 l (k + 1) (fun vs => (mk vs).put o.dst (vs k))
def putAll (vs : Nat → Value) : List Oper → Nat → Act → Act
  | [], _, a => a
  | o :: l, k, a => putAll vs l (k + 1) (a.put o.dst (vs k))
def pairB (ops : Array Oper) (i j : Nat) (o p : Oper) : Bool :=
  match p.dst with
  | none => true
  | some d => (j == i || o.dst != some d) && (!(o.looksAt ops).contains d || j == i || (decide (j < i) && waits o j) || (decide (i < j) && waits p i))
def assertB (ops : Array Oper) (n : Nat) : Bool :=
  Region.noSelect ops && (List.range ops.size).all fun i => match ops[i]? with
    | none => true
    | some o => (match o.dst with | some d => decide (d < n) | none => true) && o.after.all (fun e => !Region.binds .any e || decide (e.on < i)) &&
        (List.range ops.size).all fun j => match ops[j]? with
          | none => true
          | some p => pairB ops i j o p

section
variable {P : Program} {ops : Array Oper} {Q : Exit → Act → World → Prop} {V : Nat → Value → World → Prop} {a0 : Act} {w0 : World}

theorem waits_iff {o : Oper} {j : Nat} : waits o j = true ↔ ∃ e ∈ o.after, Region.binds .any e = true ∧ e.on = j := by
  unfold waits
  rw [Array.any_eq_true']
  simp only [Bool.and_eq_true, beq_iff_eq]

structure RegOk (ops : Array Oper) (n : Nat) : Prop where
  sel : Region.noSelect ops = true
  fits : ∀ (i : Nat) (o : Oper) (d : Tmp), ops[i]? = some o → o.dst = some d → d < n
  back : ∀ (i : Nat) (o : Oper) (j : Nat), ops[i]? = some o → waits o j = true → j < i
  apart : ∀ (i j : Nat) (o p : Oper) (d : Tmp), ops[i]? = some o → ops[j]? = some p → p.dst = some d → i ≠ j → o.dst ≠ some d
  reads : ∀ (i j : Nat) (o p : Oper) (d : Tmp), ops[i]? = some o → ops[j]? = some p → p.dst = some d → d ∈ o.looksAt ops → j = i ∨ (j < i ∧ waits o j = true) ∨ (i < j ∧ waits p i = true)

theorem checked_of {n : Nat} (h : assertB ops n = true) : RegOk ops n := by
  unfold assertB at h
  rw [Bool.and_eq_true] at h
  have hall := List.all_eq_true.1 h.2
  have one : ∀ i o, ops[i]? = some o → ((match o.dst with | some d => decide (d < n) | none => true) = true ∧ o.after.all (fun e => !Region.binds .any e || decide (e.on < i)) = true) ∧
      ∀ j p, ops[j]? = some p → pairB ops i j o p = true := by
    intro i o ho
    have hi := (Array.getElem?_eq_some_iff.1 ho).1
    have h1 := hall i (List.mem_range.2 hi)
    rw [ho] at h1
    simp only [Bool.and_eq_true] at h1
    refine ⟨h1.1, fun j p hp => ?_⟩
    have h2 := List.all_eq_true.1 h1.2 j (List.mem_range.2 (Array.getElem?_eq_some_iff.1 hp).1)
    rw [hp] at h2
    exact h2
  refine ⟨h.1, ?_, ?_, ?_, ?_⟩
  · intro i o d ho hd
    have := (one i o ho).1.1
    rw [hd] at this
    simpa using this
  · intro i o j ho hw
    obtain ⟨e, he, hb, rfl⟩ := waits_iff.1 hw
    have := Array.all_eq_true_iff_forall_mem.1 (one i o ho).1.2 e he
    simpa [hb] using this
  · intro i j o p d ho hp hd hne
    have := (one i o ho).2 j p hp
    unfold pairB at this
    rw [hd] at this
    simp only [Bool.and_eq_true, Bool.or_eq_true, beq_iff_eq, bne_iff_ne] at this
    exact this.1.resolve_left (Ne.symm hne)
  · intro i j o p d ho hp hd hin
    have := (one i o ho).2 j p hp
    unfold pairB at this
    rw [hd] at this
    simp only [Bool.and_eq_true, Bool.or_eq_true, beq_iff_eq, Bool.not_eq_true', decide_eq_true_eq] at this
    rcases this.2 with ((h1 | h1) | h1) | h1
    · exact absurd (List.contains_iff_mem.2 hin) (by rw [h1]; simp)
    · exact .inl h1
    · exact .inr (.inl h1)
    · exact .inr (.inr h1)

/-- What a state holds, when those of 'L' have come up. -/
structure Kept (ops : Array Oper) (V : Nat → Value → World → Prop) (a0 : Act) (w0 : World) (L : Nat → Prop) (vs : Nat → Value) (a : Act) (w : World) : Prop where
  grown : Below w0.heap.size w0 w
  holds : ∀ (j : Nat) (o : Oper), ops[j]? = some o → L j → V j (vs j) w
  defers : a.defers = a0.defers
  size : a.tmps.size = a0.tmps.size
  has : ∀ (j : Nat) (o : Oper) (d : Tmp), ops[j]? = some o → L j → o.dst = some d → a.tmps[d]? = some (vs j)
  rest : ∀ (t : Tmp), (∀ (j : Nat) (o : Oper), ops[j]? = some o → L j → o.dst ≠ some t) → a.tmps[t]? = a0.tmps[t]?
  closed : ∀ (j : Nat) (o : Oper), ops[j]? = some o → L j → ∀ i, waits o i = true → L i

theorem put_size (a : Act) (d : Option Tmp) (v : Value) : (a.put d v).tmps.size = a.tmps.size := by
  cases d <;> simp [Act.put]
theorem put_defers (a : Act) (d : Option Tmp) (v : Value) : (a.put d v).defers = a.defers := by
  cases d <;> rfl
theorem put_same (a : Act) (d : Tmp) (v : Value) (h : d < a.tmps.size) : (a.put (some d) v).tmps[d]? = some v := by
  simp [Act.put, h]
theorem put_other (a : Act) (d : Option Tmp) (v : Value) (t : Tmp) (h : d ≠ some t) : (a.put d v).tmps[t]? = a.tmps[t]? := by
  cases d with
  | none => rfl
  | some e =>
    have : e ≠ t := fun he => h (by rw [he])
    simp [Act.put, Array.getElem?_setIfInBounds_ne this]

/-- One more has come up. -/
theorem Kept.step {L : Nat → Prop} {vs : Nat → Value} {a : Act} {w w' : World} (ck : RegOk ops a0.tmps.size) (hst : ∀ j v x y, V j v x → Below x.heap.size x y → V j v y) (h : Kept ops V a0 w0 L vs a w)
    {i : Nat} {o : Oper} (ho : ops[i]? = some o) (hL : ¬ L i) (hw : ∀ j, waits o j = true → L j) {v : Value} (hv : V i v w') (hb : Below w.heap.size w w') :
    Kept ops V a0 w0 (fun j => j = i ∨ L j) (fun j => if j = i then v else vs j) (a.put o.dst v) w' := by
  have ne : ∀ j, L j → j ≠ i := fun j hj e => hL (e ▸ hj)
  refine ⟨h.grown.trans (hb.mono h.grown.size), ?_, (put_defers _ _ _).trans h.defers, (put_size _ _ _).trans h.size, ?_, ?_, ?_⟩
  · intro j p hp hj
    by_cases e : j = i
    · subst e
      simpa using hv
    · simpa [e] using hst j _ _ _ (h.holds j p hp (hj.resolve_left e)) hb
  · intro j p d hp hj hd
    by_cases e : j = i
    · subst e
      have : p = o := Option.some.inj (hp.symm.trans ho)
      subst this
      rw [hd]
      simpa using put_same a d v (by rw [h.size]; exact ck.fits j p d hp hd)
    · have hne : o.dst ≠ some d := ck.apart i j o p d ho hp hd (Ne.symm e)
      rw [put_other _ _ _ _ hne]
      simpa [e] using h.has j p d hp (hj.resolve_left e) hd
  · intro t ht
    have h1 : o.dst ≠ some t := ht i o ho (.inl rfl)
    rw [put_other _ _ _ _ h1]
    exact h.rest t fun j p hp hj => ht j p hp (.inr hj)
  · intro j p hp hj k hk
    rcases hj with rfl | hj
    · have : p = o := Option.some.inj (hp.symm.trans ho)
      subst this
      exact .inr (hw k hk)
    · exact .inr (h.closed j p hp hj k hk)

/-- The act that the step number k speaks of. -/
theorem putAll_kept : ∀ (l : List Oper) (k : Nat) (vs : Nat → Value) (a : Act), RegOk ops a0.tmps.size → (∀ j, l[j]? = ops[k + j]?) →
    a.tmps.size = a0.tmps.size → (∀ j o d, ops[j]? = some o → j < k → o.dst = some d → a.tmps[d]? = some (vs j)) → (∀ t, (∀ j o, ops[j]? = some o → j < k → o.dst ≠ some t) → a.tmps[t]? = a0.tmps[t]?) → a.defers = a0.defers →
    ((putAll vs l k a).tmps.size = a0.tmps.size ∧ (putAll vs l k a).defers = a0.defers ∧ (∀ j o d, ops[j]? = some o → j < k + l.length → o.dst = some d → (putAll vs l k a).tmps[d]? = some (vs j)) ∧
      (∀ t, (∀ j o, ops[j]? = some o → j < k + l.length → o.dst ≠ some t) → (putAll vs l k a).tmps[t]? = a0.tmps[t]?))
  | [], k, vs, a, _, _, h1, h2, h3, h4 => ⟨h1, h4, fun j o d ho hj => h2 j o d ho (by simpa using hj), fun t ht => h3 t fun j o ho hj => ht j o ho (by simpa using hj)⟩
  | o :: l, k, vs, a, ck, hl, h1, h2, h3, h4 => by
    have h0 : ops[k]? = some o := by simpa using (hl 0).symm
    have := putAll_kept l (k + 1) vs (a.put o.dst (vs k)) ck (fun j => by have := hl (j + 1); simpa [Nat.add_assoc, Nat.add_comm 1 j] using this) ((put_size _ _ _).trans h1)
      (fun j p d hp hj hd => by
        by_cases e : j = k
        · subst e
          have : p = o := Option.some.inj (hp.symm.trans h0)
          subst this
          rw [hd]
          exact put_same a d _ (by rw [h1]; exact ck.fits j p d hp hd)
        · rw [put_other _ _ _ _ (ck.apart k j o p d h0 hp hd (Ne.symm e))]
          exact h2 j p d hp (by omega) hd)
      (fun t ht => by
        rw [put_other _ _ _ _ (ht k o h0 (by omega))]
        exact h3 t fun j p hp hj => ht j p hp (by omega))
      ((put_defers _ _ _).trans h4)
    simpa [putAll, Nat.add_assoc, Nat.add_comm 1 l.length] using this

/-- Each step's own obligation, out of the list. -/
theorem steps_at : ∀ (l : List Oper) (k : Nat) (mk : (Nat → Value) → Act), RegOk ops a0.tmps.size → (∀ j, l[j]? = ops[k + j]?) → StepsAt P ops V a0.defers w0 l k mk →
    (∀ vs, (mk vs).tmps.size = a0.tmps.size ∧ (mk vs).defers = a0.defers ∧ (∀ j o d, ops[j]? = some o → j < k → o.dst = some d → (mk vs).tmps[d]? = some (vs j)) ∧ (∀ t, (∀ j o, ops[j]? = some o → j < k → o.dst ≠ some t) → (mk vs).tmps[t]? = a0.tmps[t]?)) →
    ∀ i o, ops[i]? = some o → k ≤ i → ∃ mk' : (Nat → Value) → Act, (∀ (vs : Nat → Value) (w : World), Below w0.heap.size w0 w → (∀ j, waits o j = true → V j (vs j) w) → wpList P ops (Stood (V i) a0.defers w o.dst) [o] (mk' vs) w) ∧
      ∀ vs, (mk' vs).tmps.size = a0.tmps.size ∧ (mk' vs).defers = a0.defers ∧ (∀ j o d, ops[j]? = some o → j < i → o.dst = some d → (mk' vs).tmps[d]? = some (vs j)) ∧ (∀ t, (∀ j o, ops[j]? = some o → j < i → o.dst ≠ some t) → (mk' vs).tmps[t]? = a0.tmps[t]?)
  | [], k, mk, _, hl, _, _, i, o, ho, hk => by
    have := hl (i - k)
    rw [Nat.add_sub_cancel' hk, ho] at this
    simp at this
  | p :: l, k, mk, ck, hl, hs, hm, i, o, ho, hk => by
    have h0 : ops[k]? = some p := by simpa using (hl 0).symm
    by_cases e : i = k
    · subst e
      have : p = o := Option.some.inj (h0.symm.trans ho)
      subst this
      exact ⟨mk, hs.1, hm⟩
    · refine steps_at l (k + 1) _ ck (fun j => by have := hl (j + 1); simpa [Nat.add_assoc, Nat.add_comm 1 j] using this) hs.2 (fun vs => ?_) i o ho (by omega)
      obtain ⟨m1, m2, m3, m4⟩ := hm vs
      refine ⟨(put_size _ _ _).trans m1, (put_defers _ _ _).trans m2, fun j q d hq hj hd => ?_, fun t ht => ?_⟩
      · by_cases e : j = k
        · subst e
          have : q = p := Option.some.inj (hq.symm.trans h0)
          subst this
          rw [hd]
          exact put_same _ d _ (by rw [m1]; exact ck.fits j q d hq hd)
        · rw [put_other _ _ _ _ (ck.apart k j p q d h0 hq hd (Ne.symm e))]
          exact m3 j q d hq (by omega) hd
      · rw [put_other _ _ _ _ (ht k p h0 (by omega))]
        exact m4 t fun j q hq hj => ht j q hq (by omega)

/-- Two acts that agree where an operation looks. -/
theorem same_run {o : Oper} (hs : ∀ cs b, o.op ≠ .select cs b) {a b : Act} (h : ∀ t ∈ o.looksAt ops, a.tmps[t]? = b.tmps[t]?) :
    execOp a.eval o = execOp b.eval o ∧ Region.wanted o (yielded ops a.tmps) = Region.wanted o (yielded ops b.tmps) := by
  refine ⟨execOp_congr o hs fun x hx => ?_, ?_⟩
  · cases x with
    | tmp t =>
      have := h t (List.mem_append_left _ (List.mem_filterMap.2 ⟨.tmp t, by simpa using hx, rfl⟩))
      simp [Act.eval, Array.getD_eq_getD_getElem?, this]
    | _ => rfl
  · unfold Region.wanted
    cases hg : o.guard with
    | none => rfl
    | some g =>
      obtain ⟨j, want⟩ := g
      have : yielded ops a.tmps j = yielded ops b.tmps j := by
        unfold yielded
        cases hd : (ops[j]?).bind (·.dst) with
        | none => rfl
        | some d =>
          have := h d (List.mem_append_right _ (by rw [hg]; simp [hd]))
          simp [this]
      simp [this]

theorem stood_wp {Vi : Value → World → Prop} {o : Oper} {a b : Act} {w : World} {K : Act → World → Prop} (he : execOp a.eval o = execOp b.eval o) (hb : b.defers = a0.defers) (hsz : ∀ d, o.dst = some d → d < b.tmps.size)
    (hK : ∀ v w', (o.dst = none → Vi undef w') → (o.dst ≠ none → Vi v w') → Below w.heap.size w w' → K (a.put o.dst v) w')
    (h : o.wp P b w (wpList P ops (Stood Vi a0.defers w o.dst) []) (Stood Vi a0.defers w o.dst)) : o.wp P a w K Q := by
  have fin : ∀ v w', wpList P ops (Stood Vi a0.defers w o.dst) [] (b.put o.dst v) w' → K (a.put o.dst v) w' := fun v w' hh => by
    obtain ⟨_, _, h3, h4⟩ := hh
    refine hK v w' (fun hn => by rw [hn] at h3; exact h3) (fun hn => ?_) h4
    obtain ⟨d, hd⟩ := Option.ne_none_iff_exists'.1 hn
    rw [hd] at h3
    have : dstAt (b.put (some d) v) (some d) = v := by
      show (b.put (some d) v).tmps.getD d undef = v
      rw [Array.getD_eq_getD_getElem?, put_same b d v (hsz d hd)]
      rfl
    rw [this] at h3
    exact h3
  unfold Oper.wp at *
  rw [he]
  generalize (execOp b.eval o).run P w = r at *
  cases r with
  | ok n w' =>
    cases n <;> simp only [Oper.upon] at h ⊢
    case value v => exact fin v w' h
    case skip => exact fin undef w' h
    case defer d =>
      obtain ⟨_, h2, _⟩ := h
      rw [put_defers] at h2
      have : (d :: b.defers).length = a0.defers.length := by rw [← h2]
      rw [hb] at this
      simp at this
    case enter f args =>
      refine Calls.mono h fun e w'' hh => ?_
      cases e with
      | returned v => exact fin v w'' hh
      | panicked c => exact absurd hh.1 (by simp)
      | outgrown => obtain ⟨_, _, h1, _⟩ := hh; cases h1
    case row row args => exact Rows.mono h fun v w'' hh => fin v w'' hh
  | halt x w' =>
    cases x <;> simp only [Oper.upon] at h ⊢
    case panic v => exact absurd h.1 (by simp)

theorem stood_step {Vi : Value → World → Prop} {i : Nat} {o : Oper} (ho : ops[i]? = some o) {a b : Act} {w : World} {K : Act → World → Prop} (he : execOp a.eval o = execOp b.eval o) (hwt : Region.wanted o (yielded ops a.tmps) = Region.wanted o (yielded ops b.tmps))
    (hb : b.defers = a0.defers) (hsz : ∀ d, o.dst = some d → d < b.tmps.size)
    (hK : ∀ v w', (o.dst = none → Vi undef w') → (o.dst ≠ none → Vi v w') → Below w.heap.size w w' → K (a.put o.dst v) w')
    (h : wpList P ops (Stood Vi a0.defers w o.dst) [o] b w) : wpOp P ops Q i K a w := by
  unfold wpOp
  simp only [ho, hwt]
  unfold wpList at h
  split
  · rename_i hw
    rw [if_pos hw] at h
    rcases h with h | ⟨_, _, _, h1, _⟩
    · exact .inl (stood_wp he hb hsz hK h)
    · cases h1
  · rename_i hw
    rw [if_neg hw] at h
    obtain ⟨_, _, h3, h4⟩ := h
    refine hK undef w (fun hn => by rw [hn] at h3; exact h3) (fun hn => ?_) h4
    obtain ⟨d, hd⟩ := Option.ne_none_iff_exists'.1 hn
    rw [hd] at h3
    have : dstAt (b.put (some d) undef) (some d) = undef := by
      show (b.put (some d) undef).tmps.getD d undef = undef
      rw [Array.getD_eq_getD_getElem?, put_same b d undef (hsz d hd)]
      rfl
    rw [this] at h3
    exact h3

def unlisted (ops : Array Oper) (listed : Array Bool) : Nat := ((List.range ops.size).filter fun j => !listed.getD j true).length

theorem wpAny_assert (ck : RegOk ops a0.tmps.size) (hst : ∀ j v x y, V j v x → Below x.heap.size x y → V j v y) (hs : StepsAt P ops V a0.defers w0 ops.toList 0 (fun _ => a0))
    (hend : ∀ vs w, Below w0.heap.size w0 w → (∀ j, j < ops.size → V j (vs j) w) → Q .normal (putAll vs ops.toList 0 a0) w) :
    ∀ (fuel : Nat) (listed : Array Bool) (vs : Nat → Value) (a : Act) (w : World), listed.size = ops.size → unlisted ops listed ≤ fuel → Kept ops V a0 w0 (fun j => listed.getD j false = true) vs a w → wpAny P .any ops Q fuel listed a w := by
  have hall := steps_at (P := P) (V := V) (w0 := w0) ops.toList 0 (fun _ => a0) ck (fun j => by simp) hs (fun vs => ⟨rfl, rfl, fun j o d _ hj => absurd hj (by omega), fun t _ => rfl⟩)
  have fin : ∀ (listed : Array Bool) (vs : Nat → Value) (a : Act) (w : World), listed.size = ops.size → Kept ops V a0 w0 (fun j => listed.getD j false = true) vs a w → Region.ready .any ops listed = [] → Q .normal a w := by
    intro listed vs a w hsz hk hr
    have every : ∀ n j, j < n → j < ops.size → listed.getD j false = true := by
      intro n
      induction n with
      | zero => intro j hj; omega
      | succ n ih =>
        intro j hj hjs
        by_cases hjn : j < n
        · exact ih j hjn hjs
        · cases hb : listed.getD j false with
          | true => rfl
          | false =>
            exfalso
            have ho : ops[j]? = some ops[j] := Array.getElem?_eq_getElem hjs
            have hmem : j ∈ Region.ready .any ops listed := by
              rw [mem_ready]
              refine ⟨?_, ops[j], ho, fun e he hbd => ?_⟩
              · rw [Array.getD_eq_getD_getElem?, Array.getElem?_eq_getElem (by omega)] at hb ⊢
                exact hb
              · have hlt := ck.back j ops[j] e.on ho (waits_iff.2 ⟨e, he, hbd, rfl⟩)
                exact ih e.on (by omega) (by omega)
            rw [hr] at hmem
            cases hmem
    have hL : ∀ j, j < ops.size → listed.getD j false = true := fun j hj => every (j + 1) j (by omega) hj
    have hp := putAll_kept (a0 := a0) ops.toList 0 vs a0 ck (fun j => by simp) rfl (fun j o d _ hj => absurd hj (by omega)) (fun t _ => rfl) rfl
    have hlen : 0 + ops.toList.length = ops.size := by simp
    rw [hlen] at hp
    obtain ⟨p1, p2, p3, p4⟩ := hp
    have ea : a = putAll vs ops.toList 0 a0 := by
      have et : a.tmps = (putAll vs ops.toList 0 a0).tmps := by
        apply Array.ext_getElem?
        intro t
        by_cases hex : ∃ (j : Nat) (o : Oper), ops[j]? = some o ∧ o.dst = some t
        · obtain ⟨j, o, ho, hd⟩ := hex
          have hjs := (Array.getElem?_eq_some_iff.1 ho).1
          rw [hk.has j o t ho (hL j hjs) hd, p3 j o t ho hjs hd]
        · rw [hk.rest t (fun j o ho _ hd => hex ⟨j, o, ho, hd⟩), p4 t (fun j o ho _ hd => hex ⟨j, o, ho, hd⟩)]
      have ed : a.defers = (putAll vs ops.toList 0 a0).defers := hk.defers.trans p2.symm
      cases a
      cases hq : putAll vs ops.toList 0 a0
      rw [hq] at et ed
      simp only at et ed
      rw [et, ed]
    rw [ea]
    exact hend vs w hk.grown fun j hj => hk.holds j ops[j] (Array.getElem?_eq_getElem hj) (hL j hj)
  intro fuel
  induction fuel with
  | zero =>
    intro listed vs a w hsz hu hk
    have hr : Region.ready .any ops listed = [] := by
      cases hr : Region.ready .any ops listed with
      | nil => rfl
      | cons i is =>
        exfalso
        have hi : i ∈ Region.ready .any ops listed := by rw [hr]; simp
        obtain ⟨h0, o, ho, _⟩ := mem_ready.1 hi
        have hmem : i ∈ (List.range ops.size).filter fun j => !listed.getD j true := List.mem_filter.2 ⟨List.mem_range.2 (Array.getElem?_eq_some_iff.1 ho).1, by simp [h0]⟩
        have := List.length_pos_of_mem hmem
        unfold unlisted at hu
        omega
    exact ⟨hr, fin listed vs a w hsz hk hr⟩
  | succ fuel ih =>
    intro listed vs a w hsz hu hk
    refine ⟨fun hr => fin listed vs a w hsz hk hr, fun i hi => ?_⟩
    obtain ⟨h0, o, ho, haft⟩ := mem_ready.1 hi
    have his := (Array.getElem?_eq_some_iff.1 ho).1
    have hwt : ∀ j, waits o j = true → listed.getD j false = true := fun j hj => by
      obtain ⟨e, he, hb, rfl⟩ := waits_iff.1 hj
      exact haft e he hb
    have hnL : ¬ listed.getD i false = true := fun hc => by
      rw [Array.getD_eq_getD_getElem?, Array.getElem?_eq_getElem (by omega)] at hc h0
      simp at hc h0
      rw [h0] at hc
      cases hc
    obtain ⟨mk', hstep, hmk⟩ := hall i o ho (Nat.zero_le _)
    obtain ⟨m1, m2, m3, m4⟩ := hmk vs
    have hdep : ∀ j, waits o j = true → V j (vs j) w := fun j hj => by
      have hjs : j < ops.size := Nat.lt_trans (ck.back i o j ho hj) his
      exact hk.holds j ops[j] (Array.getElem?_eq_getElem hjs) (hwt j hj)
    have hsel := Region.noSelect_spec ck.sel
    obtain ⟨e1, e2⟩ := same_run (ops := ops) (o := o) (fun cs b => hsel i o cs b ho) (a := a) (b := mk' vs) (fun t ht => by
      by_cases hex : ∃ (j : Nat) (p : Oper), ops[j]? = some p ∧ p.dst = some t
      · obtain ⟨j, p, hp, hd⟩ := hex
        rcases ck.reads i j o p t ho hp hd ht with rfl | ⟨hlt, hwj⟩ | ⟨hlt, hwi⟩
        · have hpo : p = o := Option.some.inj (hp.symm.trans ho)
          rw [hk.rest t fun k q hq hkL hqd => ?_, m4 t fun k q hq hkL hqd => ?_]
          · exact ck.apart j k p q t hp hq hqd (by omega) hd
          · exact ck.apart j k p q t hp hq hqd (fun e => hnL (e ▸ hkL)) hd
        · rw [hk.has j p t hp (hwt j hwj) hd, m3 j p t hp hlt hd]
        · rw [hk.rest t fun k q hq hkL hqd => ?_, m4 t fun k q hq hkL hqd => ?_]
          · exact ck.apart j k p q t hp hq hqd (by omega) hd
          · by_cases e : k = j
            · subst e
              have : q = p := Option.some.inj (hq.symm.trans hp)
              subst this
              exact hnL (hk.closed k q hq hkL i hwi)
            · exact ck.apart j k p q t hp hq hqd (Ne.symm e) hd
      · rw [hk.rest t (fun j p hp _ hd => hex ⟨j, p, hp, hd⟩), m4 t (fun j p hp _ hd => hex ⟨j, p, hp, hd⟩)])
    refine stood_step ho e1 e2 m2 (fun d hd => by rw [m1]; exact ck.fits i o d ho hd) (fun v w' hn hs' hb => ?_) (hstep vs w hk.grown hdep)
    -- the value that stands for it: undef where it has no slot
    have hv : V i (match o.dst with | some _ => v | none => undef) w' := by
      cases hd : o.dst with
      | none => exact hn hd
      | some d => exact hs' (by rw [hd]; simp)
    have hput : a.put o.dst v = a.put o.dst (match o.dst with | some _ => v | none => undef) := by
      cases hd : o.dst <;> rfl
    rw [hput]
    have hk' := hk.step ck hst ho hnL hwt hv hb
    refine ih (listed.setIfInBounds i true) (fun j => if j = i then (match o.dst with | some _ => v | none => undef) else vs j) _ w' (by simpa using hsz) ?_ ?_
    · have hlt : unlisted ops (listed.setIfInBounds i true) < unlisted ops listed := by
        unfold unlisted
        have hsub : ((List.range ops.size).filter fun j => !(listed.setIfInBounds i true).getD j true) = ((List.range ops.size).filter fun j => !listed.getD j true).filter (fun j => j != i) := by
          rw [List.filter_filter]
          apply List.filter_congr
          intro j _
          by_cases e : j = i
          · subst e
            rw [Array.getD_eq_getD_getElem?, Array.getElem?_setIfInBounds_self_of_lt (by omega)]
            simp
          · rw [getD_set_ne true (Ne.symm e)]
            simp [e]
        rw [hsub]
        have hmem : i ∈ (List.range ops.size).filter fun j => !listed.getD j true := List.mem_filter.2 ⟨List.mem_range.2 his, by simp [h0]⟩
        have := List.length_filter_lt_length_iff_exists (p := fun j => j != i) (l := (List.range ops.size).filter fun j => !listed.getD j true)
        exact this.2 ⟨i, hmem, by simp⟩
      omega
    · have : (fun j => (listed.setIfInBounds i true).getD j false = true) = (fun j => j = i ∨ listed.getD j false = true) := by
        funext j
        by_cases e : j = i
        · subst e
          rw [Array.getD_eq_getD_getElem?, Array.getElem?_setIfInBounds_self_of_lt (by omega)]
          simp
        · rw [getD_set_ne false (Ne.symm e)]
          simp [e]
      rw [this]
      exact hk'

theorem wp_region_assert {id : Nat} (V : Nat → Value → World → Prop) (hm : P.follows .mixedOrders = true) (hck : assertB ops a0.tmps.size = true) (hst : ∀ j v x y, V j v x → Below x.heap.size x y → V j v y)
    (hs : StepsAt P ops V a0.defers w0.drew ops.toList 0 (fun _ => a0))
    (hend : ∀ vs w, Below w0.drew.heap.size w0.drew w → (∀ j, j < ops.size → V j (vs j) w) → Q .normal (putAll vs ops.toList 0 a0) w) : (Code.region id ops true).wp P Q a0 w0 :=
  wp_region_any hm (wpAny_assert (checked_of hck) hst hs hend ops.size _ (fun _ => undef) a0 w0.drew (by simp) (by
      unfold unlisted
      exact Nat.le_trans (List.length_filter_le _ _) (by simp))
    (by
      have hno : ∀ j, ¬ (Array.replicate ops.size false).getD j false = true := fun j => by
        rw [Array.getD_eq_getD_getElem?]
        by_cases hj : j < ops.size <;> simp [hj]
      exact ⟨Below.refl _ _, fun j o _ h => absurd h (hno j), rfl, rfl, fun j o d _ h => absurd h (hno j), fun t _ => rfl, fun j o _ h => absurd h (hno j)⟩))
end

/- assertions, by a list -/
def StableV (p : Value → World → Prop) : Prop := ∀ v x y, p v x → Below x.heap.size x y → p v y
def isV (u : Value) : Value → World → Prop := fun v _ => v = u
theorem isV_stable (u : Value) : StableV (isV u) := fun _ _ _ h _ => h
def listV (l : List (Value → World → Prop)) (j : Nat) : Value → World → Prop := l.getD j (isV undef)
def StableAll : List (Value → World → Prop) → Prop
  | [] => True
  | p :: l => StableV p ∧ StableAll l
theorem stableAll_mem : ∀ {l : List (Value → World → Prop)}, StableAll l → ∀ p ∈ l, StableV p
  | [], _, _, hp => by cases hp
  | q :: l, h, p, hp => by
    rcases List.mem_cons.1 hp with rfl | hp
    · exact h.1
    · exact stableAll_mem h.2 p hp
theorem listV_stable {l : List (Value → World → Prop)} (h : StableAll l) : ∀ j v x y, listV l j v x → Below x.heap.size x y → listV l j v y := fun j v x y hv hb => by
  unfold listV at *
  rw [List.getD_eq_getElem?_getD] at *
  by_cases hj : j < l.length
  · rw [List.getElem?_eq_getElem hj] at *
    exact stableAll_mem h _ (List.getElem_mem hj) v x y hv hb
  · rw [List.getElem?_eq_none (by omega)] at *
    exact hv
/-- a slice of one slice, in a block of its own -/
def OneRow (A : Option Addr) (n c : Nat) (v : Value) (w : World) : Prop := ∃ g, v = .slice (some ⟨g, 0, none⟩) 1 1 ∧ g < w.heap.size ∧ w.cell? ⟨g, 0, none⟩ = some (.slice A n c)
theorem OneRow_stable (A : Option Addr) (n c : Nat) : StableV (OneRow A n c) := fun _ _ _ ⟨g, e, hg, hc⟩ hb => ⟨g, e, Nat.lt_of_lt_of_le hg hb.size, (hb.cell (p := ⟨g, 0, none⟩) hg).trans hc⟩
theorem OneRow_new (w : World) (A : Option Addr) (n c : Nat) (t : TypeId) (f : Nat × Nat) : OneRow A n c (.slice (some ⟨w.heap.size, 0, none⟩) 1 1) (w.alloc (.cells #[.slice A n c] t f)) :=
  ⟨w.heap.size, rfl, by simp, cellN rfl rfl⟩
/-- a slice of bytes that reads as l -/
def ByteRes (l : List UInt8) (v : Value) (w : World) : Prop := ∃ A c, v = .slice A l.length c ∧ l.length ≤ c ∧ BytesAt w w.heap.size A l
theorem ByteRes_stable (l : List UInt8) : StableV (ByteRes l) := fun _ _ _ ⟨A, c, e, hc, hb⟩ hg => ⟨A, c, e, hc, (Reads.below hb hg).more hg.size⟩
theorem undrew {w w' : World} (h : Below w.drew.heap.size w.drew w') : Below w.heap.size w w' := ⟨h.os, h.tape, h.output, h.size, h.block⟩
end Go.Proofs.Ytogjdfiimflbaaa
