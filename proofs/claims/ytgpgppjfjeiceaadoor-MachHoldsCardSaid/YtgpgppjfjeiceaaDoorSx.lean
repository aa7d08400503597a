/- The library of this seat's walks: triples of single operations that name only what an operation looks at, and a rule for a region in whatever order. No program in it. -/
import Derived.Orders
import Derived.OrdersIn
import Derived.TacticsIn
import Derived.RangeFuncRecord
import Derived.Below
import Derived.Tactics
import Derived.Deep.LoopGhost
import Derived.KernelRfl
namespace Go.Sx
open Go.RowKit

/-! ## names, values that hang on names -/
structure Nm where
  b : Nat
  e : Nat
  v : Value
abbrev Val := Nat → Nm
def Val.set (ν : Val) (i : Nat) (x : Nm) : Val := fun j => cond (Nat.beq i j) x (ν j)
theorem Val.set_self (ν : Val) (i : Nat) (x : Nm) : ν.set i x i = x := by simp [Val.set]
theorem Val.set_ne (ν : Val) {i j : Nat} (x : Nm) (h : j ≠ i) : ν.set i x j = ν j := by
  have : Nat.beq i j = false := by
    cases hb : Nat.beq i j
    · rfl
    · exact absurd (Nat.eq_of_beq_eq_true hb).symm h
  simp [Val.set, this]

inductive SV where
  | c (v : Value)
  | f (i : Nat) (g : Nm → Value)
  | f2 (i j : Nat) (g : Nm → Nm → Value)
def SV.den (ν : Val) : SV → Value
  | .c v => v
  | .f i g => g (ν i)
  | .f2 i j g => g (ν i) (ν j)
def SV.sup : SV → List Nat
  | .c _ => []
  | .f i _ => [i]
  | .f2 i j _ => [i, j]
theorem SV.cong {ν ν' : Val} (s : SV) (h : ∀ i, i ∈ s.sup → ν i = ν' i) : s.den ν = s.den ν' := by
  cases s with
  | c v => rfl
  | f i g => simp [SV.den, h i (by simp [SV.sup])]
  | f2 i j g => simp [SV.den, h i (by simp [SV.sup]), h j (by simp [SV.sup])]

/-! ## a piece of memory -/
structure Atom where
  sup : List Nat
  own : Val → Nat → Prop
  P : Val → World → Prop
  cong : ∀ ν ν', (∀ i, i ∈ sup → ν i = ν' i) → own ν = own ν' ∧ P ν = P ν'
  loc : ∀ ν w w', P ν w → w.heap.size ≤ w'.heap.size → (∀ k, own ν k → w'.heap[k]? = w.heap[k]?) → P ν w'
  lt : ∀ ν w k, P ν w → own ν k → k < w.heap.size
def Atom.inst (A : Atom) (ν : Val) : Atom where
  sup := []
  own := fun _ => A.own ν
  P := fun _ => A.P ν
  cong := fun _ _ _ => ⟨rfl, rfl⟩
  loc := fun _ => A.loc ν
  lt := fun _ => A.lt ν

/-! ## what is known -/
structure St where
  slots : Nat → Option SV
  atoms : Nat → Option Atom
  dom : Nat → Bool
structure Cx where
  P : Program
  n : Nat
  w0 : World
  snaps : List ((Nat → Prop) × World)
  defs : List Deferred
structure Agree (S : Nat → Prop) (w w' : World) : Prop where
  size : w.heap.size ≤ w'.heap.size
  same : ∀ k, S k → k < w.heap.size → w'.heap[k]? = w.heap[k]?
structure Ok (C : Cx) (w : World) : Prop where
  grow : Below 0 C.w0 w
  snap : ∀ s, s ∈ C.snaps → Agree s.1 s.2 w
structure SatV (C : Cx) (st : St) (ν : Val) (a : Act) (w : World) : Prop where
  size : a.tmps.size = C.n
  defs : a.defers = C.defs
  slot : ∀ t s, st.slots t = some s → a.tmps[t]? = some (s.den ν)
  atom : ∀ i A, st.atoms i = some A → A.P ν w
  apart : ∀ i j A B k, i ≠ j → st.atoms i = some A → st.atoms j = some B → A.own ν k → B.own ν k → False
  out : ∀ i A k, st.atoms i = some A → A.own ν k → ∀ s, s ∈ C.snaps → s.1 k → k < s.2.heap.size → False
  ok : Ok C w
  domS : ∀ t s, st.slots t = some s → ∀ i, i ∈ s.sup → st.dom i = true
  domA : ∀ j A, st.atoms j = some A → ∀ i, i ∈ A.sup → st.dom i = true

/-! ## an operation -/
structure Ent where
  dst : Option Nat
  xs : List (Nat × SV)
  rd : List (Nat × Atom)
  v : SV
  up : Option (Nat × Option Atom × Option Atom)
def supOf : Option (Nat × Option Atom × Option Atom) → List Nat
  | some (_, _, some A) => A.sup
  | _ => []
def Ent.sups (e : Ent) : List Nat := e.v.sup ++ supOf e.up
structure Post (e : Ent) (i : Nat) (ν : Val) (x : Nm) (w w' : World) : Prop where
  grow : Below 0 w w'
  frame : ∀ k, k < w.heap.size → (∀ j A r, e.up = some (j, some A, r) → ¬ A.own ν k) → w'.heap[k]? = w.heap[k]?
  new : ∀ j r A', e.up = some (j, r, some A') → A'.P (ν.set i x) w' ∧ ∀ k, A'.own (ν.set i x) k → w.heap.size ≤ k ∨ ∃ A, r = some A ∧ A.own ν k
structure Loc (C : Cx) (e : Ent) (ν : Val) (a : Act) (w : World) : Prop where
  size : a.tmps.size = C.n
  defs : a.defers = C.defs
  xs : ∀ p, p ∈ e.xs → a.tmps[p.1]? = some (p.2.den ν)
  rd : ∀ p, p ∈ e.rd → p.2.P ν w
  old : ∀ j A r, e.up = some (j, some A, r) → A.P ν w
  ok : Ok C w
structure Sound (C : Cx) (ops : Array Oper) (i : Nat) (o : Oper) (e : Ent) : Prop where
  dst : e.dst = o.dst
  lt : ∀ d, o.dst = some d → d < C.n
  run : ∀ ν a w K Q, Loc C e ν a w → (∀ x w', Post e i ν x w w' → K (a.put o.dst (e.v.den (ν.set i x))) w') →
    if Region.wanted o (yielded ops a.tmps) = true then o.wp C.P a w K Q else K (a.put o.dst undef) w
  nd : ∀ ν a w, Loc C e ν a w → Region.wanted o (yielded ops a.tmps) = true → ∀ c, o.op ≠ .defer c
structure Pre (e : Ent) (i : Nat) (st : St) : Prop where
  xs : ∀ p, p ∈ e.xs → st.slots p.1 = some p.2
  rd : ∀ p, p ∈ e.rd → st.atoms p.1 = some p.2
  old : ∀ j r A', e.up = some (j, r, A') → st.atoms j = r
  fresh : st.dom i = false
  sup : ∀ k, k ∈ e.sups → k = i ∨ st.dom k = true
def Ent.app (e : Ent) (i : Nat) (st : St) : St where
  slots := fun t => match e.dst with
    | some d => cond (Nat.beq d t) (some e.v) (st.slots t)
    | none => st.slots t
  atoms := fun j => match e.up with
    | some (k, _, r) => cond (Nat.beq k j) r (st.atoms j)
    | none => st.atoms j
  dom := fun j => cond (Nat.beq i j) true (st.dom j)

theorem beq_ne {d t : Nat} (h : d ≠ t) : Nat.beq d t = false := by
  cases hb : Nat.beq d t
  · rfl
  · exact absurd (Nat.eq_of_beq_eq_true hb) h
theorem app_slots_self {e : Ent} {i : Nat} {st : St} {d : Nat} (h : e.dst = some d) : (e.app i st).slots d = some e.v := by
  simp [Ent.app, h]
theorem app_slots_ne {e : Ent} {i : Nat} {st : St} {t : Nat} (h : e.dst ≠ some t) : (e.app i st).slots t = st.slots t := by
  cases hd : e.dst with
  | none => simp [Ent.app, hd]
  | some d =>
    have : d ≠ t := fun q => h (by rw [hd, q])
    simp [Ent.app, hd, beq_ne this]

theorem step {C : Cx} {ops : Array Oper} {i : Nat} {o : Oper} {e : Ent} {st : St} {ν : Val} {a : Act} {w : World} {K : Act → World → Prop} {Q : Exit → Act → World → Prop}
    (h : Sound C ops i o e) (hp : Pre e i st) (hS : SatV C st ν a w) (hK : ∀ x a' w', SatV C (e.app i st) (ν.set i x) a' w' → K a' w') :
    if Region.wanted o (yielded ops a.tmps) = true then o.wp C.P a w K Q else K (a.put o.dst undef) w := by
  refine h.run ν a w K Q ⟨hS.size, hS.defs, fun p hm => hS.slot _ _ (hp.xs p hm), fun p hm => hS.atom _ _ (hp.rd p hm), fun j A r hu => hS.atom j A (hp.old j _ _ hu), hS.ok⟩ ?_
  intro x w' hq
  refine hK x _ w' ?_
  have hν : ∀ k, st.dom k = true → (ν.set i x) k = ν k := fun k hk => Val.set_ne ν x (fun q => by rw [q, hp.fresh] at hk; cases hk)
  have hsz : w.heap.size ≤ w'.heap.size := hq.grow.size
  -- an atom that stood before, and isn't turned
  have keep : ∀ j A, st.atoms j = some A → (∀ r r', e.up ≠ some (j, r, r')) → A.P (ν.set i x) w' ∧ A.own (ν.set i x) = A.own ν := by
    intro j A hA hne
    obtain ⟨ho, hPP⟩ := A.cong (ν.set i x) ν (fun k hk => hν k (hS.domA j A hA k hk))
    refine ⟨?_, ho⟩
    rw [hPP]
    refine A.loc ν w w' (hS.atom j A hA) hsz ?_
    intro k hk
    refine hq.frame k (A.lt ν w k (hS.atom j A hA) hk) ?_
    intro j' B r hu hB
    exact hS.apart j j' A B k (fun q => hne (some B) r (by rw [q]; exact hu)) hA (hp.old j' _ _ hu) hk hB
  have atomsOf : ∀ j A, (e.app i st).atoms j = some A → (∃ r, e.up = some (j, r, some A)) ∨ (st.atoms j = some A ∧ ∀ r r', e.up ≠ some (j, r, r')) := by
    intro j A hA
    cases hu : e.up with
    | none =>
      simp only [Ent.app, hu] at hA
      exact .inr ⟨hA, fun _ _ q => by cases q⟩
    | some t =>
      obtain ⟨k, r, r'⟩ := t
      simp only [Ent.app, hu] at hA
      by_cases hk : k = j
      · subst hk
        simp at hA
        exact .inl ⟨r, by rw [hA]⟩
      · rw [beq_ne hk] at hA
        exact .inr ⟨hA, fun _ _ q => hk (by injection q with q; injection q)⟩
  refine ⟨?_, ?_, ?_, ?_, ?_, ?_, ?_, ?_, ?_⟩
  · cases o.dst <;> simp [Act.put, hS.size]
  · cases o.dst <;> simp [Act.put, hS.defs]
  · intro t s hs
    by_cases hd : e.dst = some t
    · rw [app_slots_self hd] at hs
      obtain rfl : e.v = s := by injection hs
      have hod : o.dst = some t := by rw [← h.dst, hd]
      have hlt : t < a.tmps.size := by rw [hS.size]; exact h.lt t hod
      simp [Act.put, hod, hlt]
    · rw [app_slots_ne hd] at hs
      have := hS.slot t s hs
      rw [SV.cong s (fun k hk => hν k (hS.domS t s hs k hk))]
      rw [← this]
      cases hod : o.dst with
      | none => rfl
      | some d =>
        have : d ≠ t := fun q => hd (by rw [h.dst, hod, q])
        simp [Act.put, Array.getElem?_setIfInBounds_ne this]
  · intro j A hA
    rcases atomsOf j A hA with ⟨r, hu⟩ | ⟨h1, h2⟩
    · exact (hq.new j r A hu).1
    · exact (keep j A h1 h2).1
  · intro j j' A B k hne hA hB hk hk'
    rcases atomsOf j A hA with ⟨r, hu⟩ | ⟨h1, h2⟩
    · rcases atomsOf j' B hB with ⟨r', hu'⟩ | ⟨h1', h2'⟩
      · rw [hu] at hu'
        exact hne (by injection hu' with q; injection q)
      · rw [(keep j' B h1' h2').2] at hk'
        rcases (hq.new j r A hu).2 k hk with hge | ⟨A0, hr, hA0⟩
        · have := B.lt ν w k (hS.atom j' B h1') hk'
          omega
        · subst hr
          exact hS.apart j j' A0 B k hne (hp.old j _ _ hu) h1' hA0 hk'
    · rw [(keep j A h1 h2).2] at hk
      rcases atomsOf j' B hB with ⟨r', hu'⟩ | ⟨h1', h2'⟩
      · rcases (hq.new j' r' B hu').2 k hk' with hge | ⟨A0, hr, hA0⟩
        · have := A.lt ν w k (hS.atom j A h1) hk
          omega
        · subst hr
          exact hS.apart j j' A A0 k hne h1 (hp.old j' _ _ hu') hk hA0
      · rw [(keep j' B h1' h2').2] at hk'
        exact hS.apart j j' A B k hne h1 h1' hk hk'
  · intro j A k hA hk s hs hsk hlt
    rcases atomsOf j A hA with ⟨r, hu⟩ | ⟨h1, h2⟩
    · rcases (hq.new j r A hu).2 k hk with hge | ⟨A0, hr, hA0⟩
      · have := (hS.ok.snap s hs).size
        omega
      · subst hr
        exact hS.out j A0 k (hp.old j _ _ hu) hA0 s hs hsk hlt
    · rw [(keep j A h1 h2).2] at hk
      exact hS.out j A k h1 hk s hs hsk hlt
  · refine ⟨hS.ok.grow.trans hq.grow, ?_⟩
    intro s hs
    have hs0 := hS.ok.snap s hs
    refine ⟨Nat.le_trans hs0.size hsz, ?_⟩
    intro k hk hlt
    rw [hq.frame k (Nat.lt_of_lt_of_le hlt hs0.size) ?_]
    · exact hs0.same k hk hlt
    · intro j A r hu hA
      exact hS.out j A k (hp.old j _ _ hu) hA s hs hk hlt
  · intro t s hs k hk
    by_cases hd : e.dst = some t
    · rw [app_slots_self hd] at hs
      obtain rfl : e.v = s := by injection hs
      rcases hp.sup k (by simp [Ent.sups, hk]) with rfl | hdom
      · simp [Ent.app]
      · by_cases q : i = k
        · subst q; simp [Ent.app]
        · simp [Ent.app, beq_ne q, hdom]
    · rw [app_slots_ne hd] at hs
      have := hS.domS t s hs k hk
      by_cases q : i = k
      · subst q; simp [Ent.app]
      · simp [Ent.app, beq_ne q, this]
  · intro j A hA k hk
    rcases atomsOf j A hA with ⟨r, hu⟩ | ⟨h1, _⟩
    · rcases hp.sup k (by simp [Ent.sups, supOf, hu, hk]) with rfl | hdom
      · simp [Ent.app]
      · by_cases q : i = k
        · subst q; simp [Ent.app]
        · simp [Ent.app, beq_ne q, hdom]
    · have := hS.domA j A h1 k hk
      by_cases q : i = k
      · subst q; simp [Ent.app]
      · simp [Ent.app, beq_ne q, this]

/-! ## frames of rounds, too -/
def fence (ro : Option Nat) : Fence := { Fence.wide with round := ro }
/-- What is asked of code, in a frame of its own or of a round. -/
def W (ro : Option Nat) (P : Program) (c : Code) (Q : Exit → Act → World → Prop) (a : Act) (w : World) : Prop := c.wpIn (fence ro) 0 P Q a w
theorem fn_any (ro : Option Nat) (f : FuncId) : (fence ro).fn f := trivial
theorem calls_in {ro : Option Nat} {n : Nat} {P : Program} {f : FuncId} {args : Array Value} {w : World} {R : Ending → World → Prop} (h : Calls P f args w R) : CallsIn (fence ro) n P f args w R :=
  show CallsIn Fence.wide n P f args w R from callsIn_wide.2 h
theorem rows_in {ro : Option Nat} {n : Nat} {P : Program} {row : String} {args : Array Value} {w : World} {R : Value → World → Prop} (h : Rows P row args w R) : RowsIn (fence ro) n P row args w R :=
  fun c cs _ => let ⟨v, w', r, s⟩ := h c cs; ⟨v, w', r, stepsIn_wide.2 s⟩
theorem wp_in {ro : Option Nat} {P : Program} {o : Oper} {a : Act} {w : World} {K : Act → World → Prop} {Q : Exit → Act → World → Prop} (hd : ∀ c, o.op ≠ .defer c) (h : o.wp P a w K Q) : o.wpIn (fence ro) 0 P a w K Q := by
  refine ⟨fun f _ => fn_any ro f, ?_⟩
  rw [Oper.semAt_eq _ _ _ hd]
  unfold Oper.wp at h
  generalize (execOp a.eval o).run P w = r at h
  cases r with
  | ok n w' =>
    cases n with
    | value v => exact h
    | skip => exact h
    | defer d => exact h
    | enter f args => exact ⟨fun q => by simp [fence, Fence.wide] at q, calls_in h⟩
    | row row args => exact ⟨fun q => by simp [fence, Fence.wide] at q, rows_in h⟩
    | round l f tmps assign body => exact h.elim
    | _ => exact h.elim
  | halt e w' =>
    cases e with
    | panic v => exact h
    | _ => exact h.elim
theorem stepF {C : Cx} {ops : Array Oper} {i : Nat} {o : Oper} {e : Ent} {st : St} {ν : Val} {a : Act} {w : World} {K : Act → World → Prop} {Q : Exit → Act → World → Prop} (ro : Option Nat)
    (h : Sound C ops i o e) (hp : Pre e i st) (hS : SatV C st ν a w) (hK : ∀ x a' w', SatV C (e.app i st) (ν.set i x) a' w' → K a' w') :
    if Region.wanted o (yielded ops a.tmps) = true then o.wpIn (fence ro) 0 C.P a w K Q else (∀ f, o.about C.P w a.eval = some f → (fence ro).fn f) ∧ K (a.put o.dst undef) w := by
  have hs := step (Q := Q) h hp hS hK
  split
  · rename_i hw
    rw [if_pos hw] at hs
    refine wp_in (h.nd ν a w ⟨hS.size, hS.defs, fun p hm => hS.slot _ _ (hp.xs p hm), fun p hm => hS.atom _ _ (hp.rd p hm), fun j A r hu => hS.atom j A (hp.old j _ _ hu), hS.ok⟩ hw) hs
  · rename_i hw
    rw [if_neg hw] at hs
    exact ⟨fun f _ => fn_any ro f, hs⟩

/-! ## a region -/
inductive Plan (C : Cx) (ops : Array Oper) : Nat → List Oper → St → List Ent → St → Prop
  | nil {i : Nat} {st : St} : Plan C ops i [] st [] st
  | cons {i : Nat} {o : Oper} {os : List Oper} {st st' : St} {e : Ent} {es : List Ent} (h : Sound C ops i o e) (hp : Pre e i st) (hr : Plan C ops (i + 1) os (e.app i st) es st') : Plan C ops i (o :: os) st (e :: es) st'

theorem Plan.text {ro : Option Nat} {C : Cx} {ops : Array Oper} {Q : Exit → Act → World → Prop} {i : Nat} {os : List Oper} {st st' : St} {es : List Ent} (h : Plan C ops i os st es st') :
    ∀ {ν : Val} {a : Act} {w : World}, SatV C st ν a w → (∀ ν a w, SatV C st' ν a w → Q .normal a w) → wpListIn (fence ro) 0 C.P ops Q os a w := by
  induction h with
  | nil => intro ν a w hS hQ; exact hQ ν a w hS
  | cons h hp hr ih =>
    intro ν a w hS hQ
    unfold wpListIn
    exact stepF (Q := Q) ro h hp hS (K := wpListIn (fence ro) 0 C.P ops Q _) (fun x a' w' hS' => ih hS' hQ)

theorem region_text {ro : Option Nat} {C : Cx} {Q : Exit → Act → World → Prop} {id : Nat} {l : List Oper} {st st' : St} {es : List Ent} {ν : Val} {a : Act} {w : World}
    (hS : SatV C st ν a w) (h : Plan C l.toArray 0 l st es st') (hQ : ∀ ν a w, SatV C st' ν a w → Q .normal a w) : W ro C.P (Code.region id l.toArray false) Q a w :=
  wpIn_region_lit (h.text hS hQ)

/-! ### in whatever order -/
inductive Runs (es : List Ent) : List Nat → St → St → Prop
  | nil {st : St} : Runs es [] st st
  | cons {i : Nat} {e : Ent} {L : List Nat} {st st' : St} (he : es[i]? = some e) (hp : Pre e i st) (hr : Runs es L (e.app i st) st') : Runs es (i :: L) st st'

theorem Plan.runs {C : Cx} {ops : Array Oper} {es0 : List Ent} {i : Nat} {os : List Oper} {st st' : St} {es : List Ent} (h : Plan C ops i os st es st') :
    (∀ j, es0[i + j]? = es[j]?) → Runs es0 (List.range' i os.length) st st' := by
  induction h with
  | nil => intro _; exact .nil
  | cons h hp hr ih =>
    intro hj
    simp only [List.length_cons, List.range'_succ]
    refine .cons (by simpa using hj 0) hp (ih fun j => ?_)
    have := hj (j + 1)
    simpa [Nat.add_assoc, Nat.add_comm 1 j] using this
theorem Plan.sound {C : Cx} {ops : Array Oper} {i : Nat} {os : List Oper} {st st' : St} {es : List Ent} (h : Plan C ops i os st es st') :
    ∀ j o e, os[j]? = some o → es[j]? = some e → Sound C ops (i + j) o e := by
  induction h with
  | nil => intro j o e ho; simp at ho
  | cons h hp hr ih =>
    intro j o e ho he
    cases j with
    | zero =>
      simp at ho he
      subst ho; subst he
      exact h
    | succ j =>
      have := ih j o e (by simpa using ho) (by simpa using he)
      rwa [Nat.add_assoc, Nat.add_comm 1 j] at this
theorem Plan.len {C : Cx} {ops : Array Oper} {i : Nat} {os : List Oper} {st st' : St} {es : List Ent} (h : Plan C ops i os st es st') : es.length = os.length := by
  induction h with
  | nil => rfl
  | cons _ _ _ ih => simp [ih]

def upKey : Option (Nat × Option Atom × Option Atom) → Option Nat
  | some (k, _, _) => some k
  | none => none
/-- Does a number stand in a list? -/
def inB (k : Nat) : List Nat → Bool
  | [] => false
  | x :: r => cond (Nat.beq x k) true (inB k r)
theorem inB_false {k : Nat} {l : List Nat} (h : inB k l = false) : k ∉ l := by
  induction l with
  | nil => simp
  | cons x r ih =>
    simp only [inB] at h
    cases hb : Nat.beq x k with
    | true => rw [hb] at h; cases h
    | false =>
      rw [hb] at h
      intro hm
      rcases List.mem_cons.1 hm with rfl | hm
      · simp at hb
      · exact ih h hm
def optIn (k : Option Nat) (l : List Nat) : Bool :=
  match k with
  | some k => inB k l
  | none => false
def optEq (a b : Option Nat) : Bool :=
  match a, b with
  | some x, some y => Nat.beq x y
  | _, _ => false
def keysX (l : List (Nat × SV)) : List Nat := l.map (·.1)
def keysA (l : List (Nat × Atom)) : List Nat := l.map (·.1)
def half (i : Nat) (e f : Ent) : Bool := !(optIn e.dst (keysX f.xs)) && (!(optIn (upKey e.up) (keysA f.rd)) && !(inB i f.sups))
def indep (i j : Nat) (e f : Ent) : Bool := half i e f && (half j f e && (!(optEq e.dst f.dst) && !(optEq (upKey e.up) (upKey f.up))))

theorem dom_app {e : Ent} {i k : Nat} {st : St} : (e.app i st).dom k = true ↔ k = i ∨ st.dom k = true := by
  by_cases h : i = k
  · subst h; simp [Ent.app]
  · simp only [Ent.app, beq_ne h, cond_false]
    exact ⟨.inr, fun q => q.resolve_left (fun q => h q.symm)⟩
theorem dom_app_ne {e : Ent} {i k : Nat} {st : St} (h : k ≠ i) : (e.app i st).dom k = st.dom k := by
  simp [Ent.app, beq_ne (fun q => h q.symm)]
theorem atoms_app_ne {e : Ent} {i k : Nat} {st : St} (h : upKey e.up ≠ some k) : (e.app i st).atoms k = st.atoms k := by
  cases hu : e.up with
  | none => simp [Ent.app, hu]
  | some t =>
    obtain ⟨j, r, r'⟩ := t
    have : j ≠ k := fun q => h (by simp [upKey, hu, q])
    simp [Ent.app, hu, beq_ne this]
theorem pre_app {e f : Ent} {i j : Nat} {st : St} (hij : j ≠ i) (h : half i e f = true) (hu : optEq (upKey e.up) (upKey f.up) = false) (hp : Pre f j (e.app i st)) : Pre f j st := by
  simp only [half, Bool.and_eq_true, Bool.not_eq_true'] at h
  obtain ⟨h1, h2, h3⟩ := h
  refine ⟨?_, ?_, ?_, ?_, ?_⟩
  · intro p hm
    rw [← hp.xs p hm]
    refine (app_slots_ne ?_).symm
    intro q
    rw [q] at h1
    exact inB_false h1 (List.mem_map.2 ⟨p, hm, rfl⟩)
  · intro p hm
    rw [← hp.rd p hm]
    refine (atoms_app_ne ?_).symm
    intro q
    rw [q] at h2
    exact inB_false h2 (List.mem_map.2 ⟨p, hm, rfl⟩)
  · intro k r A' hf
    rw [← hp.old k r A' hf]
    refine (atoms_app_ne ?_).symm
    intro q
    rw [q, hf] at hu
    simp [upKey, optEq] at hu
  · rw [← dom_app_ne (e := e) (st := st) hij]
    exact hp.fresh
  · intro k hk
    rcases hp.sup k hk with rfl | hd
    · exact .inl rfl
    · rcases dom_app.1 hd with rfl | hd
      · exact absurd hk (inB_false h3)
      · exact .inr hd
theorem pre_after {e f : Ent} {i j : Nat} {st : St} (hij : i ≠ j) (h : half j f e = true) (hu : optEq (upKey e.up) (upKey f.up) = false) (hp : Pre e i st) : Pre e i (f.app j st) := by
  simp only [half, Bool.and_eq_true, Bool.not_eq_true'] at h
  obtain ⟨h1, h2, h3⟩ := h
  refine ⟨?_, ?_, ?_, ?_, ?_⟩
  · intro p hm
    rw [← hp.xs p hm]
    refine app_slots_ne ?_
    intro q
    rw [q] at h1
    exact inB_false h1 (List.mem_map.2 ⟨p, hm, rfl⟩)
  · intro p hm
    rw [← hp.rd p hm]
    refine atoms_app_ne ?_
    intro q
    rw [q] at h2
    exact inB_false h2 (List.mem_map.2 ⟨p, hm, rfl⟩)
  · intro k r A' hf
    rw [← hp.old k r A' hf]
    refine atoms_app_ne ?_
    intro q
    rw [q, hf] at hu
    simp [upKey, optEq] at hu
  · rw [dom_app_ne hij]
    exact hp.fresh
  · intro k hk
    rcases hp.sup k hk with rfl | hd
    · exact .inl rfl
    · exact .inr (dom_app.2 (.inr hd))
theorem app_comm {e f : Ent} {i j : Nat} {st : St} (hd : optEq e.dst f.dst = false) (hu : optEq (upKey e.up) (upKey f.up) = false) : f.app j (e.app i st) = e.app i (f.app j st) := by
  have hs : (f.app j (e.app i st)).slots = (e.app i (f.app j st)).slots := by
    funext t
    by_cases h1 : e.dst = some t
    · have h2 : f.dst ≠ some t := fun q => by rw [h1, q] at hd; simp [optEq] at hd
      rw [app_slots_ne h2, app_slots_self h1, app_slots_self h1]
    · by_cases h2 : f.dst = some t
      · rw [app_slots_self h2, app_slots_ne h1, app_slots_self h2]
      · rw [app_slots_ne h2, app_slots_ne h1, app_slots_ne h1, app_slots_ne h2]
  have ha : (f.app j (e.app i st)).atoms = (e.app i (f.app j st)).atoms := by
    funext k
    cases he : e.up with
    | none => simp [Ent.app, he]
    | some t =>
      cases hf : f.up with
      | none => simp [Ent.app, hf]
      | some u =>
        obtain ⟨k1, r1, r1'⟩ := t
        obtain ⟨k2, r2, r2'⟩ := u
        simp only [he, hf, upKey, optEq] at hu
        simp only [Ent.app, he, hf]
        by_cases q : k1 = k
        · subst q
          have : k2 ≠ k1 := fun q => by subst q; simp at hu
          simp [beq_ne this]
        · simp [beq_ne q]
  have hdm : (f.app j (e.app i st)).dom = (e.app i (f.app j st)).dom := by
    funext k
    cases h1 : Nat.beq i k <;> cases h2 : Nat.beq j k <;> simp [Ent.app, h1, h2]
  cases h1 : f.app j (e.app i st)
  cases h2 : e.app i (f.app j st)
  rw [h1, h2] at hs ha hdm
  simp at hs ha hdm
  subst hs; subst ha; subst hdm
  rfl

theorem Runs.swap {es : List Ent} {i j : Nat} {L : List Nat} {st st' : St} {e f : Ent} (he : es[i]? = some e) (hf : es[j]? = some f) (hij : i ≠ j) (hi : indep i j e f = true)
    (h : Runs es (i :: j :: L) st st') : Runs es (j :: i :: L) st st' := by
  simp only [indep, Bool.and_eq_true, Bool.not_eq_true'] at hi
  obtain ⟨h1, h2, h3, h4⟩ := hi
  cases h with
  | cons he' hp hr =>
    rw [he] at he'
    cases he'
    cases hr with
    | cons hf' hp' hr =>
      rw [hf] at hf'
      cases hf'
      have hpf := pre_app (fun q => hij q.symm) h1 h4 hp'
      refine .cons hf hpf (.cons he (pre_after hij h2 h4 hp) ?_)
      rwa [← app_comm h3 h4]
theorem Runs.first {es : List Ent} {j : Nat} {f : Ent} (hf : es[j]? = some f) {B : List Nat} : ∀ (A : List Nat) {st st' : St}, (∀ i, i ∈ A → i ≠ j ∧ ∃ e, es[i]? = some e ∧ indep i j e f = true) →
    Runs es (A ++ j :: B) st st' → Runs es (j :: (A ++ B)) st st'
  | [], _, _, _, h => h
  | i :: A, st, st', hA, h => by
    obtain ⟨hij, e, he, hi⟩ := hA i (by simp)
    refine Runs.swap he hf hij hi ?_
    cases h with
    | cons he' hp hr => exact .cons he' hp (Runs.first hf A (fun k hk => hA k (by simp [hk])) hr)

def edge (o : Oper) (i : Nat) : Bool := o.after.any fun x => Region.binds .any x && Nat.beq x.on i
/-- Every edge goes back; what has no edge between is independent. -/
def chkRow (es : List Ent) (j : Nat) (o : Oper) (f : Ent) : Bool :=
  (o.after.all fun x => !Region.binds .any x || Nat.blt x.on j) && ((List.range j).all fun i => edge o i || (match es[i]? with
    | some e => indep i j e f
    | none => false))
def chk (ops : List Oper) (es : List Ent) : Bool := (List.range ops.length).all fun j => match ops[j]?, es[j]? with
  | some o, some f => chkRow es j o f
  | _, _ => false

theorem SatV.drew {C : Cx} {st : St} {ν : Val} {a : Act} {w w' : World} (h : SatV C st ν a w) (hh : w'.heap = w.heap) (h1 : w'.os = w.os) (h2 : w'.tape = w.tape) (h3 : w'.output = w.output) : SatV C st ν a w' := by
  refine ⟨h.size, h.defs, h.slot, ?_, h.apart, h.out, ?_, h.domS, h.domA⟩
  · intro i A hA
    exact A.loc ν w w' (h.atom i A hA) (by rw [hh]; exact Nat.le_refl _) (fun k _ => by rw [hh])
  · refine ⟨h.ok.grow.trans ⟨h1, h2, h3, by rw [hh]; exact Nat.le_refl _, fun k hk => absurd hk (Nat.not_lt_zero _)⟩, ?_⟩
    intro s hs
    have := h.ok.snap s hs
    exact ⟨by rw [hh]; exact this.size, fun k hk hlt => by rw [hh]; exact this.same k hk hlt⟩

theorem any_order {ro : Option Nat} {C : Cx} {l : List Oper} {Q : Exit → Act → World → Prop} {es : List Ent} {st' : St} (hc : chk l es = true) (_hlen : es.length = l.length)
    (hs : ∀ j o e, l[j]? = some o → es[j]? = some e → Sound C l.toArray j o e) (hQ : ∀ ν a w, SatV C st' ν a w → Q .normal a w) :
    ∀ (L : List Nat) (listed : Array Bool) (st : St) (ν : Val) (a : Act) (w : World), L.Pairwise (· < ·) → (∀ i, i ∈ L → i < l.length) → (∀ i, i < l.length → (listed.getD i true = false ↔ i ∈ L)) → listed.size = l.length →
      Runs es L st st' → SatV C st ν a w → wpAnyIn (fence ro) 0 C.P .any l.toArray Q L.length listed a w := by
  have hready : ∀ (listed : Array Bool) i, i ∈ Region.ready .any l.toArray listed ↔ (i < l.length ∧ listed.getD i true = false ∧ ∃ o, l[i]? = some o ∧ ∀ x, x ∈ o.after → Region.binds .any x = true → listed.getD x.on false = true) := by
    intro listed i
    simp only [Region.ready, List.mem_filter, List.mem_range, List.size_toArray, Bool.and_eq_true, Bool.not_eq_true']
    refine and_congr_right fun hi => and_congr_right fun _ => ?_
    have hl : l.toArray[i]? = l[i]? := by simp
    rw [hl]
    cases ho : l[i]? with
    | none => simp
    | some o =>
      simp only [Option.map_some, Option.getD_some, Array.all_eq_true', Bool.or_eq_true, Bool.not_eq_true', Option.some.injEq, exists_eq_left']
      constructor
      · intro h x hx hb
        rcases h x hx with h | h
        · rw [hb] at h; cases h
        · exact h
      · intro h x hx
        cases hb : Region.binds .any x
        · exact .inl rfl
        · exact .inr (h x hx hb)
  intro L
  induction hn : L.length generalizing L with
  | zero =>
    intro listed st ν a w _ _ hlist _ hr hS
    obtain rfl : L = [] := List.eq_nil_of_length_eq_zero hn
    refine ⟨?_, ?_⟩
    · refine List.eq_nil_iff_forall_not_mem.2 fun i hi => ?_
      obtain ⟨h1, h2, _⟩ := (hready listed i).1 hi
      exact absurd ((hlist i h1).1 h2) (by simp)
    · cases hr
      exact hQ ν a w hS
  | succ m ih =>
    intro listed st ν a w hsort hlt hlist hsz hr hS
    refine ⟨?_, ?_⟩
    · intro hnil
      exfalso
      cases L with
      | nil => simp at hn
      | cons i L =>
        have hil := hlt i (by simp)
        obtain ⟨o, ho⟩ : ∃ o, l[i]? = some o := ⟨l[i], by simp [hil]⟩
        have hrow := List.all_eq_true.1 hc i (List.mem_range.2 hil)
        cases he : es[i]? with
        | none => rw [ho, he] at hrow; cases hrow
        | some e =>
          rw [ho, he] at hrow
          simp only [chkRow, Bool.and_eq_true, Array.all_eq_true', Bool.or_eq_true, Bool.not_eq_true'] at hrow
          have : i ∈ Region.ready .any l.toArray listed := by
            refine (hready listed i).2 ⟨hil, (hlist i hil).2 (by simp), o, ho, ?_⟩
            intro x hx hb
            have hlt' : x.on < i := by
              rcases hrow.1 x hx with h | h
              · rw [hb] at h; cases h
              · simpa using h
            have hxl : x.on < l.length := by omega
            have : x.on ∉ i :: L := by
              intro hm
              rcases List.mem_cons.1 hm with h | h
              · omega
              · have := List.rel_of_pairwise_cons hsort h
                omega
            have h2 : listed.getD x.on true ≠ false := fun q => this ((hlist x.on hxl).1 q)
            have h3 : x.on < listed.size := by omega
            simp only [Array.getD, h3, dite_true, Bool.not_eq_false] at h2 ⊢
            exact h2
          rw [hnil] at this
          cases this
    · intro i hi
      obtain ⟨hil, hun, o, ho, hpre⟩ := (hready listed i).1 hi
      have hiL := (hlist i hil).1 hun
      obtain ⟨A, B, rfl⟩ := List.append_of_mem hiL
      have hrow := List.all_eq_true.1 hc i (List.mem_range.2 hil)
      cases he : es[i]? with
      | none => rw [ho, he] at hrow; cases hrow
      | some e =>
        rw [ho, he] at hrow
        simp only [chkRow, Bool.and_eq_true, List.all_eq_true, List.mem_range, Bool.or_eq_true] at hrow
        have hfirst : Runs es (i :: (A ++ B)) st st' := by
          refine Runs.first he A ?_ hr
          intro k hk
          have hki : k < i := by
            have := (List.pairwise_append.1 hsort).2.2 k hk i (by simp)
            exact this
          refine ⟨by omega, ?_⟩
          rcases hrow.2 k hki with h | h
          · exfalso
            simp only [edge, Array.any_eq_true'] at h
            obtain ⟨x, hx, hb⟩ := h
            simp only [Bool.and_eq_true] at hb
            have hon : x.on = k := Nat.eq_of_beq_eq_true hb.2
            have h1 := hpre x hx hb.1
            have h2 := (hlist k (by omega)).2 (by simp [hk])
            rw [hon] at h1
            have h3 : k < listed.size := by omega
            simp only [Array.getD, h3, dite_true] at h1 h2
            rw [h1] at h2
            cases h2
          · cases hek : es[k]? with
            | none => rw [hek] at h; cases h
            | some ek => rw [hek] at h; exact ⟨ek, rfl, h⟩
        cases hfirst with
        | cons he' hp hr' =>
          rw [he] at he'
          cases he'
          have hl : l.toArray[i]? = some o := by simpa using ho
          unfold wpOpIn
          rw [hl]
          have := stepF (Q := Q) ro (hs i o e ho he) hp hS (K := wpAnyIn (fence ro) 0 C.P .any l.toArray Q m (listed.setIfInBounds i true)) (fun x a' w' hS' => by
            refine ih (A ++ B) (by simp at hn ⊢; omega) _ _ _ a' w' ?_ ?_ ?_ ?_ hr' hS'
            · have := List.pairwise_append.1 hsort
              refine List.pairwise_append.2 ⟨this.1, (List.pairwise_cons.1 this.2.1).2, fun x hx y hy => this.2.2 x hx y (by simp [hy])⟩
            · intro k hk
              exact hlt k (by simp at hk ⊢; rcases hk with h | h <;> simp [h])
            · intro k hk
              have hk' := hlist k hk
              by_cases q : k = i
              · subst q
                have h1 : ¬ k ∈ A ++ B := by
                  have := List.pairwise_append.1 hsort
                  intro hm
                  rcases List.mem_append.1 hm with h | h
                  · have := this.2.2 k h k (by simp); omega
                  · have := (List.pairwise_cons.1 this.2.1).1 k h; omega
                have h3 : k < listed.size := by omega
                simp [Array.getD, h3, h1]
              · have h3 : k < listed.size := by omega
                simp only [Array.getD, h3, dite_true] at hk'
                have hne : i ≠ k := fun h => q h.symm
                simp [Array.getD, h3, hne]
                simp [q] at hk'
                exact hk'
            · simpa using hsz)
          exact this

theorem region_draw {ro : Option Nat} {C : Cx} {Q : Exit → Act → World → Prop} {id : Nat} {l : List Oper} {st st' : St} {es : List Ent} {ν : Val} {a : Act} {w : World}
    (hm : C.P.follows .mixedOrders = true) (hS : SatV C st ν a w) (h : Plan C l.toArray 0 l st es st') (hc : chk l es = true) (hQ : ∀ ν a w, SatV C st' ν a w → Q .normal a w) :
    W ro C.P (Code.region id l.toArray true) Q a w := by
  refine wpIn_region_any hm ?_
  have hr := h.runs (es0 := es) (fun j => by simp)
  rw [← List.range_eq_range'] at hr
  have := any_order (ro := ro) hc h.len (fun j o e ho he => by have := h.sound j o e ho he; rwa [Nat.zero_add] at this) hQ (List.range l.length) (Array.replicate l.length false) st ν a { w with drawn := w.drawn + 1 }
    List.pairwise_lt_range (fun i hi => List.mem_range.1 hi) (fun i hi => by simp [Array.getD, hi]) (by simp) hr (hS.drew rfl rfl rfl rfl)
  simpa using this

/-! ## control -/
section
variable {ro : Option Nat} {P : Program} {Q : Exit → Act → World → Prop} {a : Act} {w : World}
theorem w_mono {c : Code} {Q' : Exit → Act → World → Prop} (h : W ro P c Q a w) (hq : ∀ e a w, Q e a w → Q' e a w) : W ro P c Q' a w := wpIn_mono h hq
theorem w_seq {x y : Code} (h : W ro P x (Exit.then (W ro P y Q) Q) a w) : W ro P (Code.seq x y) Q a w := wpIn_seq h
theorem w_block {id : Nat} {c : Code} (h : W ro P c (Exit.inBlock id Q) a w) : W ro P (Code.block id c) Q a w := wpIn_block h
theorem w_skip (h : Q .normal a w) : W ro P .skip Q a w := wpIn_skip h
theorem w_label {l : Nat} (h : Q .normal a w) : W ro P (.label l) Q a w := wpIn_label h
theorem w_exit {id : Nat} (h : Q (.exit id) a w) : W ro P (.exit id) Q a w := wpIn_exit h
theorem w_goto {l : Nat} (h : Q (.goto l) a w) : W ro P (.goto l) Q a w := wpIn_goto h
theorem w_ret (h : Q .ret a w) : W ro P .ret Q a w := wpIn_ret h
theorem w_cond_split {c : Operand} {x y : Code} {t : Bool} (hc : a.eval c = .bool t) (h1 : t = true → W ro P x Q a w) (h2 : t = false → W ro P y Q a w) : W ro P (Code.cond c x y) Q a w :=
  wpIn_cond_split hc h1 h2
theorem w_loop_ghost {c : Code} (I : Nat → Act → World → Prop) (n₀ : Nat) (h₀ : I n₀ a w)
    (round : ∀ n a w, I n a w → W ro P c (Exit.then (fun a' w' => ∃ n', n' < n ∧ I n' a' w') Q) a w) : W ro P (Code.loop c) Q a w := by
  refine wpIn_loop (fun a w => ∃ n, I n a w) (fun a w => leastOf (fun n => I n a w)) ⟨n₀, h₀⟩ ?_
  intro a w hI
  refine wpIn_mono (round _ a w (leastOf_spec hI).1) ?_
  intro e a' w' hq
  cases e with
  | normal =>
    obtain ⟨n', hlt, hI'⟩ := hq
    exact show (∃ n, I n a' w') ∧ leastOf (fun n => I n a' w') < leastOf (fun n => I n a w) from ⟨⟨n', hI'⟩, Nat.lt_of_le_of_lt ((leastOf_spec ⟨n', hI'⟩).2 n' hI') hlt⟩
  | exit id => exact hq
  | goto l => exact hq
  | ret => exact hq
  | panic ch => exact hq
  | outgrown => exact hq
theorem calls_w {fn : Func} {f : FuncId} {c : Code} {args : Array Value} {R : Ending → World → Prop} (hf : P.funcs[f]? = some fn) (hb : fn.body = some c)
    (h : W none P c (bodyPost P fn R) { tmps := args ++ Array.replicate (fn.ntmps - args.size) undef, defers := [] } w) : Calls P f args w R :=
  calls_of_wp hf hb (wpIn_wide.1 h)
/-- the same, of a body that ranges over functions -/
theorem calls_wm {fn : Func} {f : FuncId} {c : Code} {args : Array Value} {R : Ending → World → Prop} (hf : P.funcs[f]? = some fn) (hb : fn.body = some c)
    (h : W none P c (bodyPostM Fence.wide 0 P fn R) { tmps := args ++ Array.replicate (fn.ntmps - args.size) undef, defers := [] } w) : Calls P f args w R :=
  callsIn_wide.1 (callsIn_of_wp_marks hf hb trivial h)
end
end Go.Sx
