/- The library of this seat's walks, its third part: calls, functions' begin and end, data that lies outside. No program in it. -/
import Derived.Test.YtgpgppjfjeiceaaDoorEq
namespace Go.Sx
open Go.RowKit

/-! ## states that are written out -/
def slotsOf : List (Nat × Value) → Nat → Option SV
  | [], _ => none
  | (k, v) :: r, t => cond (Nat.beq k t) (some (.c v)) (slotsOf r t)
def atomsOf : List (Nat × Atom) → Nat → Option Atom
  | [], _ => none
  | (k, A) :: r, t => cond (Nat.beq k t) (some A) (atomsOf r t)
def stOf (S : List (Nat × Value)) (As : List (Nat × Atom)) : St := ⟨slotsOf S, atomsOf As, fun _ => false⟩
def nu0 : Val := fun _ => ⟨0, 0, undef⟩
abbrev SatC (C : Cx) (S : List (Nat × Value)) (As : List (Nat × Atom)) (a : Act) (w : World) : Prop := SatV C (stOf S As) nu0 a w
def Slots (st : St) (ν : Val) : List (Nat × Value) → Prop
  | [] => True
  | (t, v) :: r => (∃ s, st.slots t = some s ∧ s.den ν = v) ∧ Slots st ν r
def Atoms (st : St) (ν : Val) : List (Nat × Atom) → Prop
  | [] => True
  | (k, A) :: r => (∃ B, st.atoms k = some B ∧ B.inst ν = A) ∧ Atoms st ν r
theorem Slots.get {st : St} {ν : Val} {t : Nat} {s : SV} : ∀ {S : List (Nat × Value)}, Slots st ν S → slotsOf S t = some s → ∃ s', st.slots t = some s' ∧ s = .c (s'.den ν)
  | [], _, h => by simp [slotsOf] at h
  | (k, v) :: r, hs, h => by
    simp only [slotsOf] at h
    cases hb : Nat.beq k t with
    | true =>
      have := Nat.eq_of_beq_eq_true hb
      subst this
      rw [hb] at h
      obtain ⟨s', h1, h2⟩ := hs.1
      exact ⟨s', h1, by simp at h; rw [← h, h2]⟩
    | false => rw [hb] at h; exact Slots.get hs.2 h
theorem Atoms.get {st : St} {ν : Val} {t : Nat} {A : Atom} : ∀ {As : List (Nat × Atom)}, Atoms st ν As → atomsOf As t = some A → ∃ B, st.atoms t = some B ∧ A = B.inst ν
  | [], _, h => by simp [atomsOf] at h
  | (k, v) :: r, hs, h => by
    simp only [atomsOf] at h
    cases hb : Nat.beq k t with
    | true =>
      have := Nat.eq_of_beq_eq_true hb
      subst this
      rw [hb] at h
      obtain ⟨s', h1, h2⟩ := hs.1
      exact ⟨s', h1, by simp at h; rw [← h, h2]⟩
    | false => rw [hb] at h; exact Atoms.get hs.2 h
/-- What is known behind a region, written out again. -/
theorem SatV.out1 {C : Cx} {st : St} {ν : Val} {a : Act} {w : World} (h : SatV C st ν a w) {S : List (Nat × Value)} {As : List (Nat × Atom)} (hs : Slots st ν S) (ha : Atoms st ν As) : SatC C S As a w := by
  refine ⟨h.size, h.defs, ?_, ?_, ?_, ?_, h.ok, ?_, ?_⟩
  · intro t s ht
    obtain ⟨s', h1, rfl⟩ := hs.get ht
    exact h.slot t s' h1
  · intro i A hA
    obtain ⟨B, h1, rfl⟩ := ha.get hA
    exact h.atom i B h1
  · intro i j A B k hne hA hB hk hk'
    obtain ⟨A', h1, rfl⟩ := ha.get hA
    obtain ⟨B', h2, rfl⟩ := ha.get hB
    exact h.apart i j A' B' k hne h1 h2 hk hk'
  · intro i A k hA hk s hs' hsk hlt
    obtain ⟨B, h1, rfl⟩ := ha.get hA
    exact h.out i B k h1 hk s hs' hsk hlt
  · intro t s ht k hk
    obtain ⟨s', h1, rfl⟩ := hs.get ht
    simp [SV.sup] at hk
  · intro j A hA k hk
    obtain ⟨B, h1, rfl⟩ := ha.get hA
    simp [Atom.inst] at hk

/-! ## what lies outside -/
theorem Agree.refl (S : Nat → Prop) (w : World) : Agree S w w := ⟨Nat.le_refl _, fun _ _ _ => rfl⟩
theorem Agree.trans {S : Nat → Prop} {a b c : World} (h : Agree S a b) (k : Agree S b c) : Agree S a c :=
  ⟨Nat.le_trans h.size k.size, fun j hj hl => (k.same j hj (Nat.lt_of_lt_of_le hl h.size)).trans (h.same j hj hl)⟩
def At (S : Nat → Prop) (w : World) (F : World → Prop) : Prop := ∀ w', Agree S w w' → F w'
theorem At.now {S : Nat → Prop} {w : World} {F : World → Prop} (h : At S w F) : F w := h w (Agree.refl S w)
theorem At.move {S : Nat → Prop} {w w' : World} {F : World → Prop} (h : At S w F) (k : Agree S w w') : At S w' F := fun w'' k' => h w'' (k.trans k')
def Known (C : Cx) (F : World → Prop) : Prop := ∀ w, Ok C w → F w
/-- The cells of an element's row, from the i-th on. -/
structure Rws (w : World) (A : Option Addr) (sz : Nat) (raws : List (List Value)) : Prop where
  len : ∀ r, r ∈ raws → r.length = sz
  cell : ∀ i r, raws[i]? = some r → ∃ b off cur ty fr, A = some ⟨b, off, none⟩ ∧ w.heap[b]? = some (.cells cur ty fr) ∧ ∀ k v, r[k]? = some v → cur[off + i * sz + k]? = some v
theorem Rws.mono {w w' : World} {A : Option Addr} {sz : Nat} {raws : List (List Value)} (h : Rws w A sz raws) (k : ∀ b, b < w.heap.size → w'.heap[b]? = w.heap[b]?) : Rws w' A sz raws := by
  refine ⟨h.len, fun i r hr => ?_⟩
  obtain ⟨b, off, cur, ty, fr, hA, hb, hc⟩ := h.cell i r hr
  exact ⟨b, off, cur, ty, fr, hA, by rw [k b (Array.getElem?_eq_some_iff.1 hb).1]; exact hb, hc⟩

/-! ## a function -/
/-- What holds of the world that a function begins in stays. -/
def cx (P : Program) (n : Nat) (w : World) : Cx := ⟨P, n, w, [(fun k => k < w.heap.size, w)], []⟩
theorem Ok.old {P : Program} {n : Nat} {w0 w : World} (h : Ok (cx P n w0) w) : ∀ b, b < w0.heap.size → w.heap[b]? = w0.heap[b]? :=
  fun b hb => (h.snap _ (List.mem_singleton.2 rfl)).same b hb hb
theorem Ok.below {C : Cx} {w : World} (h : Ok C w) (hm : ((fun k => k < C.w0.heap.size, C.w0) : (Nat → Prop) × World) ∈ C.snaps) : Below C.w0.heap.size C.w0 w :=
  ⟨h.grow.os, h.grow.tape, h.grow.output, h.grow.size, fun k hk => (h.snap _ hm).same k hk hk⟩
def slotsAt (args : Array Value) : List (Nat × Value) → Prop
  | [] => True
  | (t, v) :: r => args[t]? = some v ∧ slotsAt args r
theorem slotsAt_get {args : Array Value} {t : Nat} {s : SV} : ∀ {S : List (Nat × Value)}, slotsAt args S → slotsOf S t = some s → ∃ v, s = .c v ∧ args[t]? = some v
  | [], _, h => by simp [slotsOf] at h
  | (k, v) :: r, hs, h => by
    simp only [slotsOf] at h
    cases hb : Nat.beq k t with
    | true =>
      have := Nat.eq_of_beq_eq_true hb
      subst this
      rw [hb] at h
      exact ⟨v, by simp at h; exact h.symm, hs.1⟩
    | false => rw [hb] at h; exact slotsAt_get hs.2 h
theorem enter {P : Program} {f : FuncId} {fn : Func} {c : Code} {args : Array Value} {w : World} {R : Ending → World → Prop} (n : Nat) (S : List (Nat × Value)) (hf : P.funcs[f]? = some fn) (hb : fn.body = some c) (hn : fn.ntmps = n) (hle : args.size ≤ n) (hs : slotsAt args S)
    (h : ∀ a w', SatC (cx P n w) S [] a w' → W none P c (bodyPost P fn R) a w') : Calls P f args w R := by
  refine calls_w hf hb (h _ w ?_)
  refine ⟨by simp [cx, hn]; omega, rfl, ?_, ?_, ?_, ?_, ?_, ?_, ?_⟩
  · intro t s ht
    obtain ⟨v, rfl, hv⟩ := slotsAt_get hs ht
    have hlt : t < args.size := (Array.getElem?_eq_some_iff.1 hv).1
    simp only [SV.den]
    rw [Array.getElem?_append_left hlt, hv]
  · intro i A hA; simp [stOf, atomsOf] at hA
  · intro i j A B k _ hA; simp [stOf, atomsOf] at hA
  · intro i A k hA; simp [stOf, atomsOf] at hA
  · exact ⟨Below.refl 0 w, fun s hs => by rw [List.mem_singleton.1 hs]; exact Agree.refl _ w⟩
  · intro t s ht k hk
    obtain ⟨v, rfl, _⟩ := slotsAt_get hs ht
    simp [SV.sup] at hk
  · intro j A hA; simp [stOf, atomsOf] at hA
section
variable {C : Cx} {st : St} {ν : Val} {a : Act} {w : World} {P : Program} {fn : Func} {R : Ending → World → Prop}
theorem getD_of {tmps : Array Value} {t : Nat} {v : Value} (h : tmps[t]? = some v) : tmps.getD t undef = v := by
  rw [Array.getD_eq_getD_getElem?, h]; rfl
theorem fin1 {t : Nat} {v : Value} (hS : SatV C st ν a w) (hf : fn.results = #[.tmp t]) (hv : st.slots t = some (.c v)) (hR : R (.returned v) w) (hd : C.defs = [] := by rfl) : bodyPost P fn R .ret a w :=
  ⟨hS.defs.trans hd, v, by rw [results_tmp hf, getD_of (hS.slot t _ hv)]; rfl, hR⟩
theorem fin2 {t u : Nat} {v x : Value} (hS : SatV C st ν a w) (hf : fn.results = #[.tmp t, .tmp u]) (hv : st.slots t = some (.c v)) (hx : st.slots u = some (.c x)) (hR : R (.returned (.tuple #[v, x])) w) (hd : C.defs = [] := by rfl) : bodyPost P fn R .ret a w :=
  ⟨hS.defs.trans hd, _, by rw [results_tmp2 hf, getD_of (hS.slot t _ hv), getD_of (hS.slot u _ hx)]; rfl, hR⟩
theorem fin0 (hS : SatV C st ν a w) (hf : fn.results = #[]) (hR : R (.returned (.tuple #[])) w) (hd : C.defs = [] := by rfl) : bodyPost P fn R .ret a w :=
  ⟨hS.defs.trans hd, _, results_none hf _ _ _, hR⟩
theorem fin0n (hS : SatV C st ν a w) (hf : fn.results = #[]) (hR : R (.returned (.tuple #[])) w) (hd : C.defs = [] := by rfl) : bodyPost P fn R .normal a w :=
  ⟨hS.defs.trans hd, _, results_none hf _ _ _, hR⟩
end
/-- A slot that holds a Bool decides. -/
theorem cond_of {ro : Option Nat} {C : Cx} {st : St} {ν : Val} {a : Act} {w : World} {P : Program} {Q : Exit → Act → World → Prop} {t : Nat} {b : Bool} {x y : Code} (hS : SatV C st ν a w) (hv : st.slots t = some (.c (.bool b))) (h1 : b = true → W ro P x Q a w) (h2 : b = false → W ro P y Q a w) : W ro P (Code.cond (.tmp t) x y) Q a w :=
  w_cond_split (getD_of (hS.slot t _ hv)) h1 h2

theorem cond_t {ro : Option Nat} {C : Cx} {st : St} {ν : Val} {a : Act} {w : World} {P : Program} {Q : Exit → Act → World → Prop} {t : Nat} {b : Bool} {x y : Code} (hS : SatV C st ν a w) (hv : st.slots t = some (.c (.bool b))) (hb : b = true) (h1 : W ro P x Q a w) : W ro P (Code.cond (.tmp t) x y) Q a w :=
  cond_of hS hv (fun _ => h1) (fun h => by rw [hb] at h; cases h)
theorem cond_f {ro : Option Nat} {C : Cx} {st : St} {ν : Val} {a : Act} {w : World} {P : Program} {Q : Exit → Act → World → Prop} {t : Nat} {b : Bool} {x y : Code} (hS : SatV C st ν a w) (hv : st.slots t = some (.c (.bool b))) (hb : b = false) (h1 : W ro P y Q a w) : W ro P (Code.cond (.tmp t) x y) Q a w :=
  cond_of hS hv (fun h => by rw [hb] at h; cases h) (fun _ => h1)

/-! ## calls -/
theorem run_call {P : Program} {f : FuncId} {o : Oper} {ρ : Operand → Value} {cal : Operand} {args : List Operand} {tys : Array TypeId} {lb vals : List Value} (ho : o.op = .call ⟨.value cal, args.toArray, tys⟩) (hcal : ρ cal = .func (.func f) #[] lb.toArray)
    (he : ∀ args w, (callFunc f args).run P w = .ok (.enter f args) w) (hv : args.map ρ ++ lb = vals) (w : World) : (execOp ρ o).run P w = .ok (.enter f vals.toArray) w := by
  subst hv
  simp [execOp, ho, resolve, hcal, Deferred.ofValue, invoke, he]
section
variable {C : Cx} {ops : Array Oper} {i : Nat} {o : Oper} {gx : List (Nat × SV)}
theorem os_enter {f : FuncId} {vals : Val → Array Value} {xs : List (Nat × SV)} {rd : List (Nat × Atom)} {v : SV} {up : Option (Nat × Option Atom × Option Atom)} (hg : Gd ops o gx true) (hl : ltB o.dst C.n = true) (hc : covers o xs = true)
    (hrun : ∀ ν w, (execOp (ev ν xs) o).run C.P w = .ok (.enter f (vals ν)) w)
    (h : ∀ ν w, Ok C w → (∀ p, p ∈ rd → p.2.P ν w) → (∀ j A r, up = some (j, some A, r) → A.P ν w) → Calls C.P f (vals ν) w fun e w' => ∃ x, e = .returned (v.den (ν.set i x)) ∧ Post ⟨o.dst, gx ++ xs, rd, v, up⟩ i ν x w w') :
    Sound C ops i o ⟨o.dst, gx ++ xs, rd, v, up⟩ := by
  refine ⟨rfl, ltB_lt hl, ?_, fun _ _ _ _ _ => covers_nd hc⟩
  intro ν a w K Q hL hK
  rw [if_pos (hg.wanted fun p hp => hL.xs p (List.mem_append_left _ hp))]
  unfold Oper.wp
  rw [exec_ev (fun p hm => hL.xs p (List.mem_append_right _ hm)) hc, hrun ν w]
  refine (h ν w hL.ok hL.rd hL.old).mono ?_
  rintro e w' ⟨x, rfl, hp⟩
  exact hK x w' hp
/-- A call of a function that only looks, and makes blocks of its own. -/
theorem os_call {f : FuncId} {cal : Operand} {args : List Operand} {tys : Array TypeId} {lb : List Value} {vals : Val → List Value} {xs : List (Nat × SV)} {rd : List (Nat × Atom)} {v : SV} (hg : Gd ops o gx true) (hl : ltB o.dst C.n = true) (ho : o.op = .call ⟨.value cal, args.toArray, tys⟩) (hc : covers o xs = true)
    (he : ∀ args w, (callFunc f args).run C.P w = .ok (.enter f args) w) (hcal : ∀ ν, ev ν xs cal = .func (.func f) #[] lb.toArray) (hv : ∀ ν, args.map (ev ν xs) ++ lb = vals ν) (hs : inB i v.sup = false)
    (h : ∀ ν w, Ok C w → (∀ p, p ∈ rd → p.2.P ν w) → Calls C.P f (vals ν).toArray w fun e w' => e = .returned (v.den ν) ∧ Below w.heap.size w w') :
    Sound C ops i o ⟨o.dst, gx ++ xs, rd, v, none⟩ := by
  refine os_enter (vals := fun ν => (vals ν).toArray) hg hl hc (fun ν w => run_call ho (hcal ν) he (hv ν) w) fun ν w hok hr _ => (h ν w hok hr).mono ?_
  rintro e w' ⟨rfl, hb⟩
  refine ⟨⟨0, 0, undef⟩, ?_, ⟨hb.mono (Nat.zero_le _), fun k hk _ => hb.block k hk, fun _ _ _ q => by cases q⟩⟩
  rw [SV.cong v (ν := ν) (ν' := ν.set i ⟨0, 0, undef⟩) (fun k hk => (Val.set_ne ν _ (fun q => inB_false hs (by rw [← q]; exact hk))).symm)]
/-- What a call has made: it lies in the blocks from .b to .e. -/
def data (i : Nat) (F : Value → World → Prop) : Atom where
  sup := [i]
  own := fun ν k => (ν i).b ≤ k ∧ k < (ν i).e
  P := fun ν w => (ν i).e ≤ w.heap.size ∧ At (fun k => (ν i).b ≤ k ∧ k < (ν i).e) w (F (ν i).v)
  cong := by
    intro ν ν' h
    have := h i (by simp)
    exact ⟨by rw [this], by rw [this]⟩
  loc := by
    intro ν w w' hp hs hf
    refine ⟨Nat.le_trans hp.1 hs, hp.2.move ⟨hs, fun k hk _ => hf k hk⟩⟩
  lt := by
    intro ν w k hp hk
    exact Nat.lt_of_lt_of_le hk.2 hp.1
def valOf : Nm → Value := fun m => m.v
/-- A call that answers something new in memory. -/
theorem os_callN (k : Nat) {f : FuncId} {cal : Operand} {args : List Operand} {tys : Array TypeId} {lb : List Value} {vals : Val → List Value} {xs : List (Nat × SV)} {rd : List (Nat × Atom)} {F : Value → World → Prop} (hg : Gd ops o gx true) (hl : ltB o.dst C.n = true) (ho : o.op = .call ⟨.value cal, args.toArray, tys⟩) (hc : covers o xs = true)
    (he : ∀ args w, (callFunc f args).run C.P w = .ok (.enter f args) w) (hcal : ∀ ν, ev ν xs cal = .func (.func f) #[] lb.toArray) (hv : ∀ ν, args.map (ev ν xs) ++ lb = vals ν)
    (h : ∀ ν w, Ok C w → (∀ p, p ∈ rd → p.2.P ν w) → Calls C.P f (vals ν).toArray w fun e w' => ∃ v, e = .returned v ∧ Below w.heap.size w w' ∧ At (fun k => w.heap.size ≤ k) w' (F v)) :
    Sound C ops i o ⟨o.dst, gx ++ xs, rd, .f i valOf, some (k, none, some (data i F))⟩ := by
  refine os_enter (vals := fun ν => (vals ν).toArray) hg hl hc (fun ν w => run_call ho (hcal ν) he (hv ν) w) fun ν w hok hr _ => (h ν w hok hr).mono ?_
  rintro e w' ⟨v, rfl, hb, hF⟩
  refine ⟨⟨w.heap.size, w'.heap.size, v⟩, by simp [SV.den, valOf, Val.set_self], ⟨hb.mono (Nat.zero_le _), fun k hk _ => hb.block k hk, ?_⟩⟩
  intro j r A' q
  cases q
  refine ⟨⟨?_, ?_⟩, ?_⟩
  · rw [Val.set_self]; exact Nat.le_refl _
  · rw [Val.set_self]
    intro w'' ha
    exact hF w'' ⟨ha.size, fun k hk hl => ha.same k ⟨hk, hl⟩ hl⟩
  · intro k hk
    have hk' : ((ν.set i ⟨w.heap.size, w'.heap.size, v⟩) i).b ≤ k := hk.1
    rw [Val.set_self] at hk'
    exact .inl hk'

/-! ## elements -/
/-- The address of an element: the index lies in the slice. -/
theorem os_index {t el sz p n cap : Nat} {ad : Addr} {k : Int} {ik : IntKind} {xs : List (Nat × SV)} {y : Operand} (hg : Gd ops o gx true) (hl : ltB o.dst C.n = true) (ho : o.op = .indexAddr t (.tmp p) y) (hc : covers o xs = true) (hx : ∀ ν, ev ν xs (.tmp p) = .slice (some ad) n cap) (hy : ∀ ν, ev ν xs y = .int ik k)
    (hu : ∀ w, (underlying t).run C.P w = .ok (.slice el) w) (hz : ∀ w, (sizeOf el).run C.P w = .ok sz w) (h0 : 0 ≤ k) (h1 : k < (n : Int)) :
    Sound C ops i o ⟨o.dst, gx ++ xs, [], .c (.pointer (some (ad.add (k.toNat * sz)))), none⟩ := by
  refine os_read hg hl hc (fun k hk => by simp [SV.sup] at hk) fun ν w _ _ => ?_
  simp only [execOp, ho, hx, hy, Instr.indexAt, Sem.run_bind, Sem.run_pure, Result.andThen_ok, asIntOf, hu, SV.den]
  simp [hz, h0, h1]
/-- A variable outside is read. -/
theorem os_loadX {p : Nat} {t : TypeId} {ad : Addr} {v : Value} (hg : Gd ops o gx true) (hl : ltB o.dst C.n = true) (ho : o.op = .load t (.tmp p)) (h : ∀ w, Ok C w → (loadVar t ad).run C.P w = .ok v w) :
    Sound C ops i o ⟨o.dst, gx ++ [(p, .c (.pointer (some ad)))], [], .c v, none⟩ := by
  refine os_read hg hl (by simp [covers, ho, isSel, isDefer, Op.operands, covL, hasT]) (fun k hk => by simp [SV.sup] at hk) fun ν w hok _ => ?_
  simp [execOp, ho, ev, look, SV.den, Instr.loadAt, Instr.sureAddr, h w hok]
end
/-! ## what the printer's texts use -/
def PreX (st : St) : List (Nat × SV) → Prop
  | [] => True
  | (t, s) :: r => st.slots t = some s ∧ PreX st r
def PreA (st : St) : List (Nat × Atom) → Prop
  | [] => True
  | (t, s) :: r => st.atoms t = some s ∧ PreA st r
def PreU (st : St) : Option (Nat × Option Atom × Option Atom) → Prop
  | some (j, r, _) => st.atoms j = r
  | none => True
def supB (i : Nat) (dom : Nat → Bool) : List Nat → Bool
  | [] => true
  | k :: r => (cond (Nat.beq k i) true (dom k)) && supB i dom r
theorem PreX.get {st : St} : ∀ {l : List (Nat × SV)}, PreX st l → ∀ p, p ∈ l → st.slots p.1 = some p.2
  | [], _, p, h => by simp at h
  | (t, s) :: r, hl, p, h => by
    rcases List.mem_cons.1 h with rfl | h
    · exact hl.1
    · exact PreX.get hl.2 p h
theorem PreA.get {st : St} : ∀ {l : List (Nat × Atom)}, PreA st l → ∀ p, p ∈ l → st.atoms p.1 = some p.2
  | [], _, p, h => by simp at h
  | (t, s) :: r, hl, p, h => by
    rcases List.mem_cons.1 h with rfl | h
    · exact hl.1
    · exact PreA.get hl.2 p h
theorem supB_get {i : Nat} {dom : Nat → Bool} : ∀ {l : List Nat}, supB i dom l = true → ∀ k, k ∈ l → k = i ∨ dom k = true
  | [], _, k, h => by simp at h
  | x :: r, hl, k, h => by
    simp only [supB, Bool.and_eq_true] at hl
    rcases List.mem_cons.1 h with rfl | h
    · cases hb : Nat.beq k i with
      | true => exact .inl (Nat.eq_of_beq_eq_true hb)
      | false => have := hl.1; rw [hb] at this; exact .inr this
    · exact supB_get hl.2 k h
theorem pm {e : Ent} {i : Nat} {st : St} (h1 : PreX st e.xs) (h2 : PreA st e.rd) (h3 : PreU st e.up) (h4 : st.dom i = false) (h5 : supB i st.dom e.sups = true) : Pre e i st := by
  refine ⟨h1.get, h2.get, ?_, h4, supB_get h5⟩
  intro j r A' h
  rw [h] at h3
  exact h3
theorem seq_join {ro : Option Nat} {P : Program} {Q : Exit → Act → World → Prop} {a : Act} {w : World} {x y : Code} (J : Act → World → Prop) (hx : W ro P x (Exit.then J Q) a w) (hy : ∀ a w, J a w → W ro P y Q a w) : W ro P (Code.seq x y) Q a w := by
  refine w_seq (w_mono hx fun e a w q => ?_)
  cases e with
  | normal => exact hy a w q
  | _ => exact q
theorem then_join {ro : Option Nat} {P : Program} {Q : Exit → Act → World → Prop} {a : Act} {w : World} {c y : Code} (J : Act → World → Prop) (hx : W ro P c (Exit.then J Q) a w) (hy : ∀ a w, J a w → W ro P y Q a w) : W ro P c (Exit.then (W ro P y Q) Q) a w := by
  refine w_mono hx fun e a w q => ?_
  cases e with
  | normal => exact hy a w q
  | _ => exact q
theorem any_join {ro : Option Nat} {P : Program} {Q : Exit → Act → World → Prop} {a : Act} {w : World} {c : Code} (J : Act → World → Prop) (hx : W ro P c (Exit.then J Q) a w) (hy : ∀ a w, J a w → Q .normal a w) : W ro P c Q a w := by
  refine w_mono hx fun e a w q => ?_
  cases e with
  | normal => exact hy a w q
  | _ => exact q
theorem results_tmp3 {fn : Func} {t u v : Tmp} (h : fn.results = #[.tmp t, .tmp u, .tmp v]) (tmps : Array Value) (P : Program) (w : World) :
    (results fn tmps).run P w = .ok (.tuple #[tmps.getD t undef, tmps.getD u undef, tmps.getD v undef]) w := by
  simp [results, h]
theorem fin3 {C : Cx} {st : St} {ν : Val} {a : Act} {w : World} {P : Program} {fn : Func} {R : Ending → World → Prop} {t u z : Nat} {v x y : Value} (hS : SatV C st ν a w) (hf : fn.results = #[.tmp t, .tmp u, .tmp z]) (hv : st.slots t = some (.c v)) (hx : st.slots u = some (.c x)) (hy : st.slots z = some (.c y)) (hR : R (.returned (.tuple #[v, x, y])) w) (hd : C.defs = [] := by rfl) : bodyPost P fn R .ret a w :=
  ⟨hS.defs.trans hd, _, by rw [results_tmp3 hf, getD_of (hS.slot t _ hv), getD_of (hS.slot u _ hx), getD_of (hS.slot z _ hy)]; rfl, hR⟩
/-- Strings alike, as the machine has it. -/
def sEq (x y : ByteArray) : Bool := x.toList == y.toList
theorem i64_in (n : Int) (h : -9223372036854775808 ≤ n ∧ n ≤ 9223372036854775807) : IntKind.i64.wrap n = n := by rw [IntKind.wrap_i64]; omega
theorem i64_left (n : Int) : IntKind.i64.wrap n = wrap64 n := IntKind.wrap_i64 n
def dataC (lo hi : Nat) (v : Value) (F : Value → World → Prop) : Atom where
  sup := []
  own := fun _ k => lo ≤ k ∧ k < hi
  P := fun _ w => hi ≤ w.heap.size ∧ At (fun k => lo ≤ k ∧ k < hi) w (F v)
  cong := fun _ _ _ => ⟨rfl, rfl⟩
  loc := fun _ _ _ hp hs hf => ⟨Nat.le_trans hp.1 hs, hp.2.move ⟨hs, fun k hk _ => hf k hk⟩⟩
  lt := fun _ _ _ hp hk => Nat.lt_of_lt_of_le hk.2 hp.1
def eraseA (k : Nat) : List (Nat × Atom) → List (Nat × Atom)
  | [] => []
  | (j, A) :: r => cond (Nat.beq j k) (eraseA k r) ((j, A) :: eraseA k r)
theorem eraseA_get {k t : Nat} {A : Atom} : ∀ {As : List (Nat × Atom)}, atomsOf (eraseA k As) t = some A → t ≠ k ∧ atomsOf As t = some A
  | [], h => by simp [eraseA, atomsOf] at h
  | (j, B) :: r, h => by
    simp only [eraseA] at h
    cases hb : Nat.beq j k with
    | true =>
      rw [hb] at h
      obtain ⟨h1, h2⟩ := eraseA_get h
      refine ⟨h1, ?_⟩
      have : j = k := Nat.eq_of_beq_eq_true hb
      simp [atomsOf, beq_ne (show j ≠ t from fun q => h1 (by rw [← q, this])), h2]
    | false =>
      rw [hb] at h
      simp only [cond_false, atomsOf] at h ⊢
      have hjk : j ≠ k := fun q => by subst q; simp at hb
      cases hb2 : Nat.beq j t with
      | true =>
        rw [hb2] at h
        have : j = t := Nat.eq_of_beq_eq_true hb2
        exact ⟨fun q => hjk (this.trans q), by simpa using h⟩
      | false =>
        rw [hb2] at h
        obtain ⟨h1, h2⟩ := eraseA_get h
        exact ⟨h1, by simpa using h2⟩
/-- What a call has made is laid aside: from here on it is known. -/
theorem SatV.snap {P : Program} {n : Nat} {w0 : World} {L : List ((Nat → Prop) × World)} {S : List (Nat × Value)} {As As' : List (Nat × Atom)} {a : Act} {w : World} {lo hi : Nat} {v : Value} {F : Value → World → Prop} {ds : List Deferred} (h : SatC ⟨P, n, w0, L, ds⟩ S As a w) (k : Nat)
    (hA : atomsOf As k = some (dataC lo hi v F)) (hin : ((fun k => k < w0.heap.size, w0) : (Nat → Prop) × World) ∈ L) (hE : eraseA k As = As') :
    ∃ L', ((fun k => k < w0.heap.size, w0) : (Nat → Prop) × World) ∈ L' ∧ (∀ G, Known ⟨P, n, w0, L, ds⟩ G → Known ⟨P, n, w0, L', ds⟩ G) ∧ Known ⟨P, n, w0, L', ds⟩ (F v) ∧ SatC ⟨P, n, w0, L', ds⟩ S As' a w := by
  subst hE
  have hp := h.atom k _ hA
  refine ⟨(fun j => lo ≤ j ∧ j < hi, w) :: L, List.mem_cons_of_mem _ hin, ?_, ?_, ?_⟩
  · intro G hG w' hok
    exact hG w' ⟨hok.grow, fun s hs => hok.snap s (List.mem_cons_of_mem _ hs)⟩
  · intro w' hok
    exact hp.2 w' (hok.snap _ List.mem_cons_self)
  · refine ⟨h.size, h.defs, h.slot, ?_, ?_, ?_, ?_, h.domS, ?_⟩
    · intro i A hA'
      exact h.atom i A (eraseA_get hA').2
    · intro i j A B q hne h1 h2
      exact h.apart i j A B q hne (eraseA_get h1).2 (eraseA_get h2).2
    · intro i A q hA' hq s hs
      obtain ⟨h1, h2⟩ := eraseA_get hA'
      rcases List.mem_cons.1 hs with rfl | hs
      · intro hsq _
        exact h.apart i k A _ q h1 h2 hA hq hsq
      · exact h.out i A q h2 hq s hs
    · refine ⟨h.ok.grow, ?_⟩
      intro s hs
      rcases List.mem_cons.1 hs with rfl | hs
      · exact Agree.refl _ w
      · exact h.ok.snap s hs
    · intro j A hA'
      exact h.domA j A (eraseA_get hA').2
/-! ## short forms -/
def xsE (st : St) (l : List (Nat × SV)) : List (Option SV) := l.map fun p => st.slots p.1
def xsV (l : List (Nat × SV)) : List (Option SV) := l.map fun p => some p.2
def rdE (st : St) (l : List (Nat × Atom)) : List (Option Atom) := l.map fun p => st.atoms p.1
def rdV (l : List (Nat × Atom)) : List (Option Atom) := l.map fun p => some p.2
def upE (st : St) (u : Option (Nat × Option Atom × Option Atom)) : Option Atom :=
  match u with
  | some (j, _, _) => st.atoms j
  | none => none
def upV (u : Option (Nat × Option Atom × Option Atom)) : Option Atom :=
  match u with
  | some (_, r, _) => r
  | none => none
theorem map_get {α β : Type} {f g : α → β} : ∀ {l : List α}, l.map f = l.map g → ∀ x, x ∈ l → f x = g x
  | [], _, x, h => by simp at h
  | y :: r, hl, x, h => by
    simp only [List.map_cons, List.cons.injEq] at hl
    rcases List.mem_cons.1 h with rfl | h
    · exact hl.1
    · exact map_get hl.2 x h
theorem pq {e : Ent} {i : Nat} {st : St} (h1 : xsE st e.xs = xsV e.xs) (h2 : rdE st e.rd = rdV e.rd) (h3 : upE st e.up = upV e.up) (h4 : st.dom i = false) (h5 : supB i st.dom e.sups = true) : Pre e i st := by
  refine ⟨map_get h1, map_get h2, ?_, h4, supB_get h5⟩
  intro j r A' h
  rw [h] at h3
  exact h3
theorem cn {C : Cx} {ops : Array Oper} {i : Nat} {o : Oper} {os : List Oper} {st st' : St} {e : Ent} {es : List Ent} (h : Sound C ops i o e) (hr : Plan C ops (i + 1) os (e.app i st) es st') (hp : Pre e i st := by exact pq rfl rfl rfl rfl rfl) : Plan C ops i (o :: os) st (e :: es) st' := .cons h hp hr
theorem nl {C : Cx} {ops : Array Oper} {i : Nat} {st : St} : Plan C ops i [] st [] st := .nil
def slE (st : St) (ν : Val) (S : List (Nat × Value)) : List (Option Value) := S.map fun p => (st.slots p.1).map (SV.den ν)
def slV (S : List (Nat × Value)) : List (Option Value) := S.map fun p => some p.2
def atE (st : St) (ν : Val) (As : List (Nat × Atom)) : List (Option Atom) := As.map fun p => (st.atoms p.1).map fun A => A.inst ν
def atV (As : List (Nat × Atom)) : List (Option Atom) := As.map fun p => some p.2
theorem slots_of {st : St} {ν : Val} : ∀ {S : List (Nat × Value)}, slE st ν S = slV S → Slots st ν S
  | [], _ => trivial
  | (t, v) :: r, h => by
    simp only [slE, slV, List.map_cons, List.cons.injEq] at h
    obtain ⟨h1, h2⟩ := h
    obtain ⟨s, hs, hv⟩ := Option.map_eq_some_iff.1 h1
    exact ⟨⟨s, hs, hv⟩, slots_of h2⟩
theorem atoms_of {st : St} {ν : Val} : ∀ {As : List (Nat × Atom)}, atE st ν As = atV As → Atoms st ν As
  | [], _ => trivial
  | (t, v) :: r, h => by
    simp only [atE, atV, List.map_cons, List.cons.injEq] at h
    obtain ⟨h1, h2⟩ := h
    obtain ⟨s, hs, hv⟩ := Option.map_eq_some_iff.1 h1
    exact ⟨⟨s, hs, hv⟩, atoms_of h2⟩
theorem SatV.ou {C : Cx} {st : St} {ν : Val} {a : Act} {w : World} (h : SatV C st ν a w) {S : List (Nat × Value)} {As : List (Nat × Atom)} (hs : slE st ν S = slV S) (ha : atE st ν As = atV As) : SatC C S As a w :=
  h.out1 (slots_of hs) (atoms_of ha)
section
variable {C : Cx} {Q : Exit → Act → World → Prop} {id : Nat} {l : List Oper} {st st' : St} {es : List Ent} {ν : Val} {a : Act} {w : World}
theorem rt {ro : Option Nat} (hS : SatV C st ν a w) (S : Val → List (Nat × Value)) (As : Val → List (Nat × Atom)) (h : Plan C l.toArray 0 l st es st') (hQ : ∀ ν a w, SatC C (S ν) (As ν) a w → Q .normal a w)
    (hs : ∀ ν, slE st' ν (S ν) = slV (S ν) := by exact fun _ => rfl) (ha : ∀ ν, atE st' ν (As ν) = atV (As ν) := by exact fun _ => rfl) : W ro C.P (Code.region id l.toArray false) Q a w :=
  region_text hS h fun ν a w h => hQ ν a w (h.ou (hs ν) (ha ν))
theorem rw_ {ro : Option Nat} (hS : SatV C st ν a w) (S : Val → List (Nat × Value)) (As : Val → List (Nat × Atom)) (hm : C.P.follows .mixedOrders = true) (h : Plan C l.toArray 0 l st es st') (hQ : ∀ ν a w, SatC C (S ν) (As ν) a w → Q .normal a w) (hc : chk l es = true := by kernel_rfl)
    (hs : ∀ ν, slE st' ν (S ν) = slV (S ν) := by exact fun _ => rfl) (ha : ∀ ν, atE st' ν (As ν) = atV (As ν) := by exact fun _ => rfl) : W ro C.P (Code.region id l.toArray true) Q a w :=
  region_draw hm hS h hc fun ν a w h => hQ ν a w (h.ou (hs ν) (ha ν))
end
def cc (l : List (Nat × Value)) : List (Nat × SV) := l.map fun p => (p.1, .c p.2)
def cv (l : List Value) : List SV := l.map .c
section
variable {C : Cx} {ops : Array Oper} {i : Nat} {o : Oper}
/-- values in, a value out -/
theorem pc (xs : List (Nat × Value)) (v : Value) (hd : o.guard = none := by rfl) (hl : ltB o.dst C.n = true := by rfl) (hc : covers o (cc xs) = true := by rfl) (h : ∀ ν w, (execOp (ev ν (cc xs)) o).run C.P w = .ok (.value v) w := by intro _ _; kernel_rfl) :
    Sound C ops i o ⟨o.dst, cc xs, [], .c v, none⟩ := os_pure (.no hd) hl hc rfl h
theorem pv (xs : List (Nat × SV)) (v : SV) (hd : o.guard = none := by rfl) (hl : ltB o.dst C.n = true := by rfl) (hc : covers o xs = true := by rfl) (hs : inB i v.sup = false := by rfl) (h : ∀ ν w, (execOp (ev ν xs) o).run C.P w = .ok (.value (v.den ν)) w := by intro _ _; kernel_rfl) :
    Sound C ops i o ⟨o.dst, xs, [], v, none⟩ := os_pure (.no hd) hl hc hs h
/-- the same, behind a guard that holds -/
theorem gc (j t : Nat) (b : Bool) (xs : List (Nat × Value)) (v : Value) (hd : o.guard = some (j, b) := by rfl) (ht : (ops[j]?).bind (·.dst) = some t := by rfl) (hl : ltB o.dst C.n = true := by rfl) (hc : covers o (cc xs) = true := by rfl) (h : ∀ ν w, (execOp (ev ν (cc xs)) o).run C.P w = .ok (.value v) w := by intro _ _; kernel_rfl) :
    Sound C ops i o ⟨o.dst, [(t, .c (.bool b))] ++ cc xs, [], .c v, none⟩ := os_pure (.yes j t b hd ht) hl hc rfl h
/-- passed over -/
theorem sk (j t : Nat) (b b' : Bool) (hd : o.guard = some (j, b) := by rfl) (ht : (ops[j]?).bind (·.dst) = some t := by rfl) (hne : (b' == b) = false := by rfl) (hl : ltB o.dst C.n = true := by rfl) :
    Sound C ops i o ⟨o.dst, [(t, .c (.bool b'))], [], .c undef, none⟩ := os_skip (.off j t b b' hd ht hne) hl
theorem supL_cv : ∀ l : List Value, supL (cv l) = []
  | [] => rfl
  | _ :: r => by simp [cv, supL, SV.sup]; exact supL_cv r
/-- a cell of a box, all of whose cells are values -/
theorem ld (p j b off ty : Nat) (cs : List Value) (v : Value) {t : TypeId} (ht : ∀ w, (isAgg t).run C.P w = .ok false w) (ho : o.op = .load t (.tmp p) := by rfl) (hd : o.guard = none := by rfl) (hl : ltB o.dst C.n = true := by rfl) (hv : (cv cs)[off]? = some (.c v) := by rfl) :
    Sound C ops i o ⟨o.dst, [(p, .c (.pointer (some ⟨b, off, none⟩)))], [(j, box (.c b) (cv cs) ty)], .c v, none⟩ := os_load (.no hd) hl ho ht hv rfl
theorem gld (q z : Nat) (g : Bool) (p j b off ty : Nat) (cs : List Value) (v : Value) {t : TypeId} (ht : ∀ w, (isAgg t).run C.P w = .ok false w) (ho : o.op = .load t (.tmp p) := by rfl) (hd : o.guard = some (q, g) := by rfl) (hz : (ops[q]?).bind (·.dst) = some z := by rfl) (hl : ltB o.dst C.n = true := by rfl) (hv : (cv cs)[off]? = some (.c v) := by rfl) :
    Sound C ops i o ⟨o.dst, [(z, .c (.bool g))] ++ [(p, .c (.pointer (some ⟨b, off, none⟩)))], [(j, box (.c b) (cv cs) ty)], .c v, none⟩ := os_load (.yes q z g hd hz) hl ho ht hv rfl
theorem ldN (p j b off ty : Nat) (cs : List Value) (v : Value) {t : TypeId} {n : Nat} (ht : ∀ w, (isAgg t).run C.P w = .ok true w) (hn : ∀ w, (sizeOf t).run C.P w = .ok n w) (ho : o.op = .load t (.tmp p) := by rfl) (hd : o.guard = none := by rfl) (hl : ltB o.dst C.n = true := by rfl)
    (hb : Nat.ble (off + n) (cv cs).length = true := by rfl) (hv : ∀ ν, ((denL ν (cv cs)).drop off).take n = v.cells.toList := by exact fun _ => rfl) (hva : v = .agg v.cells := by rfl) :
    Sound C ops i o ⟨o.dst, [(p, .c (.pointer (some ⟨b, off, none⟩)))], [(j, box (.c b) (cv cs) ty)], .c v, none⟩ := os_loadN (.no hd) hl ho ht hn (Nat.le_of_ble_eq_true hb) hv hva
theorem bx (k : Nat) (xs : List (Nat × Value)) (cs : List Value) {x : Operand} {t : TypeId} (ho : o.op = .box t x := by rfl) (hd : o.guard = none := by rfl) (hl : ltB o.dst C.n = true := by rfl) (hc : covL (cc xs) [x] = true := by rfl) (hv : ∀ ν, (ev ν (cc xs) x).cells.toList = denL ν (cv cs) := by exact fun _ => rfl) :
    Sound C ops i o ⟨o.dst, cc xs, [], .f i ptrOf, some (k, none, some (box (.nm i) (cv cs) t))⟩ := os_box k (.no hd) hl ho hc hv (by rw [supL_cv]; rfl)
theorem al (k : Nat) (z : Value) (cs : List Value) {t : TypeId} (ho : o.op = .alloc t := by rfl) (hd : o.guard = none := by rfl) (hl : ltB o.dst C.n = true := by rfl) (hz : ∀ w, (zeroValue t).run C.P w = .ok z w := by intro _; kernel_rfl) (hv : ∀ ν, z.cells.toList = denL ν (cv cs) := by exact fun _ => rfl) :
    Sound C ops i o ⟨o.dst, [], [], .f i ptrOf, some (k, none, some (box (.nm i) (cv cs) t))⟩ := os_alloc k (.no hd) hl ho hz hv (by rw [supL_cv]; rfl)
theorem bs (k el : Nat) (xs : List (Nat × Value)) (cs : List Value) {t n : Nat} {parts : Array (Nat × Operand)} (ho : o.op = .buildSlice t n parts := by rfl) (hd : o.guard = none := by rfl) (hl : ltB o.dst C.n = true := by rfl) (hc : covers o (cc xs) = true := by rfl)
    (hr : ∀ ν w, (Instr.buildSlice t n (parts.map fun (i, x) => (i, ev ν (cc xs) x))).run C.P w = .ok (.slice (some ⟨w.heap.size, 0, none⟩) n n) (w.alloc (.cells (denL ν (cv cs)).toArray el)) := by intro _ _; kernel_rfl) :
    Sound C ops i o ⟨o.dst, cc xs, [], .f i (sliceOf n), some (k, none, some (box (.nm i) (cv cs) el))⟩ := os_buildSlice k (.no hd) hl ho hc hr (by rw [supL_cv]; rfl)
theorem sto (p j b off ty : Nat) (xs : List (Nat × Value)) (cs cs' : List Value) {n : Nat} {t : TypeId} {y : Operand} (hn : ∀ w, (sizeOf t).run C.P w = .ok n w) (ho : o.op = .store t (.tmp p) y := by rfl) (hg : o.guard = none := by rfl) (hd : o.dst = none := by rfl) (hcv : covL ((p, .c (.pointer (some ⟨b, off, none⟩))) :: cc xs) [y] = true := by rfl)
    (hv : ∀ ν, (ev ν ((p, .c (.pointer (some ⟨b, off, none⟩))) :: cc xs) y).cells.toList.length = n := by exact fun _ => rfl) (h1 : ∀ ν, (ev ν ((p, .c (.pointer (some ⟨b, off, none⟩))) :: cc xs) y).cells.toList.all Value.oneCell' = true := by exact fun _ => rfl) (hb : Nat.ble (off + n) (cv cs).length = true := by rfl)
    (hcs : ∀ ν, denL ν (cv cs') = (denL ν (cv cs)).take off ++ (ev ν ((p, .c (.pointer (some ⟨b, off, none⟩))) :: cc xs) y).cells.toList ++ (denL ν (cv cs)).drop (off + n) := by exact fun _ => rfl) :
    Sound C ops i o ⟨o.dst, (p, .c (.pointer (some ⟨b, off, none⟩))) :: cc xs, [], .c undef, some (j, some (box (.c b) (cv cs) ty), some (box (.c b) (cv cs') ty))⟩ :=
  os_store (.no hg) (by rw [hd]; rfl) hd ho hcv hn hv h1 (Nat.le_of_ble_eq_true hb) hcs (by rw [supL_cv]; rfl)
end

/-! ## numbers -/
section
variable {P : Program} {ρ : Operand → Value} {o : Oper} {t yt : TypeId} {x y : Operand} {k yk : IntKind} {a b : Int}
theorem xshl (ho : o.op = .binOp .shl t x y yt) (ha : ρ x = .int k a) (hb : ρ y = .int yk b) (h : 0 ≤ b) (w : World) : (execOp ρ o).run P w = .ok (.value (.int k (shlF k a b))) w :=
  run_bin ho (by simp) (by simp) (by rw [ha, hb]; exact run_shl h) w
theorem xshr (ho : o.op = .binOp .shr t x y yt) (ha : ρ x = .int k a) (hb : ρ y = .int yk b) (h : 0 ≤ b) (w : World) : (execOp ρ o).run P w = .ok (.value (.int k (shrF k a b))) w :=
  run_bin ho (by simp) (by simp) (by rw [ha, hb]; exact run_shr h) w
theorem xquo (ho : o.op = .binOp .quo t x y yt) (ha : ρ x = .int k a) (hb : ρ y = .int k b) (h : b ≠ 0) (w : World) : (execOp ρ o).run P w = .ok (.value (.int k (k.wrap (a.tdiv b)))) w :=
  run_bin ho (by simp) (by simp) (by rw [ha, hb]; exact run_quo h) w
theorem xrem (ho : o.op = .binOp .rem t x y yt) (ha : ρ x = .int k a) (hb : ρ y = .int k b) (h : b ≠ 0) (w : World) : (execOp ρ o).run P w = .ok (.value (.int k (a.tmod b))) w :=
  run_bin ho (by simp) (by simp) (by rw [ha, hb]; exact run_rem h) w
end
/-! ## results that lie in memory -/
section
variable {C : Cx} {st : St} {ν : Val} {a : Act} {w : World} {P : Program} {fn : Func} {R : Ending → World → Prop}
theorem finc1 {t : Nat} {ty : TypeId} {ad : Addr} {v : Value} (hS : SatV C st ν a w) (hf : fn.results = #[.cell t ty]) (hp : st.slots t = some (.c (.pointer (some ad)))) (hl : (loadVar ty ad).run P w = .ok v w) (hR : R (.returned v) w) (hd : C.defs = [] := by rfl) : bodyPost P fn R .ret a w :=
  ⟨hS.defs.trans hd, v, by simp [results, hf, hS.slot t _ hp, SV.den, asAddr, hl], hR⟩
theorem finc2 {t u : Nat} {ty uy : TypeId} {ad bd : Addr} {v x : Value} (hS : SatV C st ν a w) (hf : fn.results = #[.cell t ty, .cell u uy]) (hp : st.slots t = some (.c (.pointer (some ad)))) (hq : st.slots u = some (.c (.pointer (some bd)))) (hl : (loadVar ty ad).run P w = .ok v w) (hm : (loadVar uy bd).run P w = .ok x w) (hR : R (.returned (.tuple #[v, x])) w) (hd : C.defs = [] := by rfl) : bodyPost P fn R .ret a w :=
  ⟨hS.defs.trans hd, _, by simp [results, hf, hS.slot t _ hp, hS.slot u _ hq, SV.den, asAddr, hl, hm], hR⟩
theorem finct {t u : Nat} {ty : TypeId} {ad : Addr} {v x : Value} (hS : SatV C st ν a w) (hf : fn.results = #[.cell t ty, .tmp u]) (hp : st.slots t = some (.c (.pointer (some ad)))) (hx : st.slots u = some (.c x)) (hl : (loadVar ty ad).run P w = .ok v w) (hR : R (.returned (.tuple #[v, x])) w) (hd : C.defs = [] := by rfl) : bodyPost P fn R .ret a w :=
  ⟨hS.defs.trans hd, _, by simp [results, hf, hS.slot t _ hp, hS.slot u _ hx, SV.den, asAddr, hl], hR⟩
/-- a box's content, as one value -/
theorem box_all {b ty n k : Nat} {cs : List Value} {t : TypeId} {v : Value} (hS : SatV C st ν a w) (hA : st.atoms k = some (box (.c b) (cv cs) ty)) (ht : ∀ w, (isAgg t).run P w = .ok true w) (hn : ∀ w, (sizeOf t).run P w = .ok n w) (hl : cs.length = n) (hv : v = .agg cs.toArray) : (loadVar t ⟨b, 0, none⟩).run P w = .ok v w := by
  have hb := hS.atom k _ hA
  have hd : denL ν (cv cs) = cs := by
    clear hA hb hv hl
    induction cs with
    | nil => rfl
    | cons c r ih => simp only [cv, List.map_cons, denL, SV.den] at ih ⊢; rw [ih]
  have hb' : w.heap[b]? = some (.cells cs.toArray ty (0, 0)) := by
    have : w.heap[b]? = some (.cells (denL ν (cv cs)).toArray ty (0, 0)) := hb
    rw [this, hd]
  rw [run_loadVarN (off := 0) ht hn hb' (by simp [hl]), hv]
  simp [← hl]
end
section
variable {C : Cx} {ops : Array Oper} {i : Nat} {o : Oper}
theorem lb_ (p j off ty : Nat) (bv : BV) (sa : SV) (cs : List SV) (v : SV) {t : TypeId} (ht : ∀ w, (isAgg t).run C.P w = .ok false w) (ho : o.op = .load t (.tmp p) := by rfl) (hsa : ∀ ν, sa.den ν = .pointer (some ⟨bv.den ν, off, none⟩) := by exact fun _ => rfl) (hd : o.guard = none := by rfl) (hl : ltB o.dst C.n = true := by rfl) (hv : cs[off]? = some v := by rfl) (hs : inB i v.sup = false := by rfl) :
    Sound C ops i o ⟨o.dst, [(p, sa)], [(j, box bv cs ty)], v, none⟩ := os_loadb (.no hd) hl ho hsa ht hv hs
theorem sb_ (p j off ty : Nat) (bv : BV) (sa : SV) (xs : List (Nat × SV)) (cs cs' : List SV) {n : Nat} {t : TypeId} {y : Operand} (hn : ∀ w, (sizeOf t).run C.P w = .ok n w) (ho : o.op = .store t (.tmp p) y := by rfl) (hsa : ∀ ν, sa.den ν = .pointer (some ⟨bv.den ν, off, none⟩) := by exact fun _ => rfl) (hg : o.guard = none := by rfl) (hd : o.dst = none := by rfl) (hcv : covL ((p, sa) :: xs) [y] = true := by rfl)
    (hv : ∀ ν, (ev ν ((p, sa) :: xs) y).cells.toList.length = n := by exact fun _ => rfl) (h1 : ∀ ν, (ev ν ((p, sa) :: xs) y).cells.toList.all Value.oneCell' = true := by exact fun _ => rfl) (hb : Nat.ble (off + n) cs.length = true := by rfl)
    (hcs : ∀ ν, denL ν cs' = (denL ν cs).take off ++ (ev ν ((p, sa) :: xs) y).cells.toList ++ (denL ν cs).drop (off + n) := by exact fun _ => rfl) (hs : inB i (supL cs') = false := by rfl) (hbs : inB i bv.sup = false := by rfl) :
    Sound C ops i o ⟨o.dst, (p, sa) :: xs, [], .c undef, some (j, some (box bv cs ty), some (box bv cs' ty))⟩ :=
  os_storeb (.no hg) (by rw [hd]; rfl) hd ho hsa hcv hn hv h1 (Nat.le_of_ble_eq_true hb) hcs hs hbs
end

theorem then_ret {K : Act → World → Prop} {Q : Exit → Act → World → Prop} {a : Act} {w : World} (h : Q .ret a w) : Exit.then K Q .ret a w := h
theorem in_ret {id : Nat} {Q : Exit → Act → World → Prop} {a : Act} {w : World} (h : Q .ret a w) : Exit.inBlock id Q .ret a w := h
theorem in_normal {id : Nat} {Q : Exit → Act → World → Prop} {a : Act} {w : World} (h : Q .normal a w) : Exit.inBlock id Q .normal a w := h
section
variable {C : Cx} {ops : Array Oper} {i : Nat} {o : Oper}
theorem sku (j t : Nat) (b : Bool) (hd : o.guard = some (j, b) := by rfl) (ht : (ops[j]?).bind (·.dst) = some t := by rfl) (hl : ltB o.dst C.n = true := by rfl) :
    Sound C ops i o ⟨o.dst, [(t, .c undef)], [], .c undef, none⟩ := os_skip (.un j t b hd ht) hl
/-- a call, of values; what it answers is a value -/
theorem ca (f : Nat) (lb vals : List Value) (xs : List (Nat × Value)) (v : Value) (he : ∀ args w, (callFunc f args).run C.P w = .ok (.enter f args) w) {cal : Operand} {args : List Operand} {tys : Array TypeId}
    (h : ∀ w, Ok C w → Calls C.P f vals.toArray w fun e w' => e = .returned v ∧ Below w.heap.size w w') (ho : o.op = .call ⟨.value cal, args.toArray, tys⟩ := by rfl) (hd : o.guard = none := by rfl) (hl : ltB o.dst C.n = true := by rfl) (hc : covers o (cc xs) = true := by rfl)
    (hcal : ∀ ν, ev ν (cc xs) cal = .func (.func f) #[] lb.toArray := by exact fun _ => rfl) (hv : ∀ ν, args.map (ev ν (cc xs)) ++ lb = vals := by exact fun _ => rfl) :
    Sound C ops i o ⟨o.dst, cc xs, [], .c v, none⟩ :=
  os_call (vals := fun _ => vals) (.no hd) hl ho hc he hcal hv rfl fun _ w hok _ => h w hok
theorem gca (j t : Nat) (b : Bool) (f : Nat) (lb vals : List Value) (xs : List (Nat × Value)) (v : Value) (he : ∀ args w, (callFunc f args).run C.P w = .ok (.enter f args) w) {cal : Operand} {args : List Operand} {tys : Array TypeId}
    (h : ∀ w, Ok C w → Calls C.P f vals.toArray w fun e w' => e = .returned v ∧ Below w.heap.size w w') (ho : o.op = .call ⟨.value cal, args.toArray, tys⟩ := by rfl) (hd : o.guard = some (j, b) := by rfl) (ht : (ops[j]?).bind (·.dst) = some t := by rfl) (hl : ltB o.dst C.n = true := by rfl) (hc : covers o (cc xs) = true := by rfl)
    (hcal : ∀ ν, ev ν (cc xs) cal = .func (.func f) #[] lb.toArray := by exact fun _ => rfl) (hv : ∀ ν, args.map (ev ν (cc xs)) ++ lb = vals := by exact fun _ => rfl) :
    Sound C ops i o ⟨o.dst, [(t, .c (.bool b))] ++ cc xs, [], .c v, none⟩ :=
  os_call (vals := fun _ => vals) (.yes j t b hd ht) hl ho hc he hcal hv rfl fun _ w hok _ => h w hok
/-- the same with what the region has made -/
theorem cb (f : Nat) (lb : List Value) (vals : Val → List Value) (xs : List (Nat × SV)) (rd : List (Nat × Atom)) (v : SV) (he : ∀ args w, (callFunc f args).run C.P w = .ok (.enter f args) w) {cal : Operand} {args : List Operand} {tys : Array TypeId}
    (h : ∀ ν w, Ok C w → (∀ p, p ∈ rd → p.2.P ν w) → Calls C.P f (vals ν).toArray w fun e w' => e = .returned (v.den ν) ∧ Below w.heap.size w w') (ho : o.op = .call ⟨.value cal, args.toArray, tys⟩ := by rfl) (hd : o.guard = none := by rfl) (hl : ltB o.dst C.n = true := by rfl) (hc : covers o xs = true := by rfl)
    (hcal : ∀ ν, ev ν xs cal = .func (.func f) #[] lb.toArray := by exact fun _ => rfl) (hv : ∀ ν, args.map (ev ν xs) ++ lb = vals ν := by exact fun _ => rfl) (hs : inB i v.sup = false := by rfl) :
    Sound C ops i o ⟨o.dst, xs, rd, v, none⟩ := os_call (.no hd) hl ho hc he hcal hv hs h
theorem gcb (j t : Nat) (b : Bool) (f : Nat) (lb : List Value) (vals : Val → List Value) (xs : List (Nat × SV)) (rd : List (Nat × Atom)) (v : SV) (he : ∀ args w, (callFunc f args).run C.P w = .ok (.enter f args) w) {cal : Operand} {args : List Operand} {tys : Array TypeId}
    (h : ∀ ν w, Ok C w → (∀ p, p ∈ rd → p.2.P ν w) → Calls C.P f (vals ν).toArray w fun e w' => e = .returned (v.den ν) ∧ Below w.heap.size w w') (ho : o.op = .call ⟨.value cal, args.toArray, tys⟩ := by rfl) (hd : o.guard = some (j, b) := by rfl) (ht : (ops[j]?).bind (·.dst) = some t := by rfl) (hl : ltB o.dst C.n = true := by rfl) (hc : covers o xs = true := by rfl)
    (hcal : ∀ ν, ev ν xs cal = .func (.func f) #[] lb.toArray := by exact fun _ => rfl) (hv : ∀ ν, args.map (ev ν xs) ++ lb = vals ν := by exact fun _ => rfl) (hs : inB i v.sup = false := by rfl) :
    Sound C ops i o ⟨o.dst, [(t, .c (.bool b))] ++ xs, rd, v, none⟩ := os_call (.yes j t b hd ht) hl ho hc he hcal hv hs h
/-- a call that answers something new -/
theorem cN (k f : Nat) (lb : List Value) (vals : Val → List Value) (xs : List (Nat × SV)) (rd : List (Nat × Atom)) (F : Value → World → Prop) (he : ∀ args w, (callFunc f args).run C.P w = .ok (.enter f args) w) {cal : Operand} {args : List Operand} {tys : Array TypeId}
    (h : ∀ ν w, Ok C w → (∀ p, p ∈ rd → p.2.P ν w) → Calls C.P f (vals ν).toArray w fun e w' => ∃ v, e = .returned v ∧ Below w.heap.size w w' ∧ At (fun k => w.heap.size ≤ k) w' (F v)) (ho : o.op = .call ⟨.value cal, args.toArray, tys⟩ := by rfl) (hd : o.guard = none := by rfl) (hl : ltB o.dst C.n = true := by rfl) (hc : covers o xs = true := by rfl)
    (hcal : ∀ ν, ev ν xs cal = .func (.func f) #[] lb.toArray := by exact fun _ => rfl) (hv : ∀ ν, args.map (ev ν xs) ++ lb = vals ν := by exact fun _ => rfl) :
    Sound C ops i o ⟨o.dst, xs, rd, .f i valOf, some (k, none, some (data i F))⟩ := os_callN k (.no hd) hl ho hc he hcal hv h
theorem lx (p : Nat) (ad : Addr) (v : Value) {t : TypeId} (h : ∀ w, Ok C w → (loadVar t ad).run C.P w = .ok v w) (ho : o.op = .load t (.tmp p) := by rfl) (hd : o.guard = none := by rfl) (hl : ltB o.dst C.n = true := by rfl) : Sound C ops i o ⟨o.dst, [(p, .c (.pointer (some ad)))], [], .c v, none⟩ := os_loadX (.no hd) hl ho h
theorem glx (j t : Nat) (b : Bool) (p : Nat) (ad : Addr) (v : Value) {ty : TypeId} (h : ∀ w, Ok C w → (loadVar ty ad).run C.P w = .ok v w) (ho : o.op = .load ty (.tmp p) := by rfl) (hd : o.guard = some (j, b) := by rfl) (ht : (ops[j]?).bind (·.dst) = some t := by rfl) (hl : ltB o.dst C.n = true := by rfl) : Sound C ops i o ⟨o.dst, [(t, .c (.bool b))] ++ [(p, .c (.pointer (some ad)))], [], .c v, none⟩ := os_loadX (.yes j t b hd ht) hl ho h
theorem ix (xs : List (Nat × Value)) (p : Nat) (ad : Addr) (n cap : Nat) (k : Int) {t el sz : Nat} {ik : IntKind} {y : Operand} (hu : ∀ w, (underlying t).run C.P w = .ok (.slice el) w) (hz : ∀ w, (sizeOf el).run C.P w = .ok sz w) (h0 : 0 ≤ k) (h1 : k < (n : Int)) (ho : o.op = .indexAddr t (.tmp p) y := by rfl) (hd : o.guard = none := by rfl) (hl : ltB o.dst C.n = true := by rfl) (hc : covers o (cc xs) = true := by rfl)
    (hx : ∀ ν, ev ν (cc xs) (.tmp p) = .slice (some ad) n cap := by exact fun _ => rfl) (hy : ∀ ν, ev ν (cc xs) y = .int ik k := by exact fun _ => rfl) : Sound C ops i o ⟨o.dst, cc xs, [], .c (.pointer (some (ad.add (k.toNat * sz)))), none⟩ := os_index (.no hd) hl ho hc hx hy hu hz h0 h1
theorem gix (j t0 : Nat) (b : Bool) (xs : List (Nat × Value)) (p : Nat) (ad : Addr) (n cap : Nat) (k : Int) {t el sz : Nat} {ik : IntKind} {y : Operand} (hu : ∀ w, (underlying t).run C.P w = .ok (.slice el) w) (hz : ∀ w, (sizeOf el).run C.P w = .ok sz w) (h0 : 0 ≤ k) (h1 : k < (n : Int)) (ho : o.op = .indexAddr t (.tmp p) y := by rfl) (hd : o.guard = some (j, b) := by rfl) (ht : (ops[j]?).bind (·.dst) = some t0 := by rfl) (hl : ltB o.dst C.n = true := by rfl) (hc : covers o (cc xs) = true := by rfl)
    (hx : ∀ ν, ev ν (cc xs) (.tmp p) = .slice (some ad) n cap := by exact fun _ => rfl) (hy : ∀ ν, ev ν (cc xs) y = .int ik k := by exact fun _ => rfl) : Sound C ops i o ⟨o.dst, [(t0, .c (.bool b))] ++ cc xs, [], .c (.pointer (some (ad.add (k.toNat * sz)))), none⟩ := os_index (.yes j t0 b hd ht) hl ho hc hx hy hu hz h0 h1
end
section
variable {C : Cx} {ops : Array Oper} {i : Nat} {o : Oper} {gx : List (Nat × SV)}
/-- an array's element -/
theorem os_indexA {t n el sz : Nat} {ad : Addr} {k : Int} {ik : IntKind} {xs : List (Nat × SV)} {x y : Operand} (hg : Gd ops o gx true) (hl : ltB o.dst C.n = true) (ho : o.op = .indexAddr t x y) (hc : covers o xs = true) (hx : ∀ ν, ev ν xs x = .pointer (some ad)) (hy : ∀ ν, ev ν xs y = .int ik k)
    (hu : ∀ w, (underlying t).run C.P w = .ok (.array n el) w) (hz : ∀ w, (sizeOf el).run C.P w = .ok sz w) (h0 : 0 ≤ k) (h1 : k < (n : Int)) :
    Sound C ops i o ⟨o.dst, gx ++ xs, [], .c (.pointer (some (ad.add (k.toNat * sz)))), none⟩ := by
  refine os_read hg hl hc (fun k hk => by simp [SV.sup] at hk) fun ν w _ _ => ?_
  simp only [execOp, ho, hx, hy, Instr.indexAt, Sem.run_bind, Sem.run_pure, Result.andThen_ok, asIntOf, hu, SV.den, Instr.sureAddr]
  simp [hz, h0, h1]
theorem ixA (xs : List (Nat × Value)) (ad : Addr) (k : Int) {t n el sz : Nat} {ik : IntKind} {x y : Operand} (hu : ∀ w, (underlying t).run C.P w = .ok (.array n el) w) (hz : ∀ w, (sizeOf el).run C.P w = .ok sz w) (h0 : 0 ≤ k) (h1 : k < (n : Int)) (ho : o.op = .indexAddr t x y := by rfl) (hd : o.guard = none := by rfl) (hl : ltB o.dst C.n = true := by rfl) (hc : covers o (cc xs) = true := by rfl)
    (hx : ∀ ν, ev ν (cc xs) x = .pointer (some ad) := by exact fun _ => rfl) (hy : ∀ ν, ev ν (cc xs) y = .int ik k := by exact fun _ => rfl) : Sound C ops i o ⟨o.dst, cc xs, [], .c (.pointer (some (ad.add (k.toNat * sz)))), none⟩ := os_indexA (.no hd) hl ho hc hx hy hu hz h0 h1
end
section
variable {C : Cx} {ops : Array Oper} {i : Nat} {o : Oper}
theorem ixo (xs : List (Nat × Value)) (p : Nat) {A : Option Addr} (ad : Addr) (n cap : Nat) (k : Int) {t el sz : Nat} {ik : IntKind} {y : Operand} (hA : A = some ad) (hu : ∀ w, (underlying t).run C.P w = .ok (.slice el) w) (hz : ∀ w, (sizeOf el).run C.P w = .ok sz w) (h0 : 0 ≤ k) (h1 : k < (n : Int)) (ho : o.op = .indexAddr t (.tmp p) y := by rfl) (hd : o.guard = none := by rfl) (hl : ltB o.dst C.n = true := by rfl) (hc : covers o (cc xs) = true := by rfl)
    (hx : ∀ ν, ev ν (cc xs) (.tmp p) = .slice A n cap := by exact fun _ => rfl) (hy : ∀ ν, ev ν (cc xs) y = .int ik k := by exact fun _ => rfl) : Sound C ops i o ⟨o.dst, cc xs, [], .c (.pointer (some (ad.add (k.toNat * sz)))), none⟩ := by subst hA; exact os_index (.no hd) hl ho hc hx hy hu hz h0 h1
theorem gixo (j t0 : Nat) (b : Bool) (xs : List (Nat × Value)) (p : Nat) {A : Option Addr} (ad : Addr) (n cap : Nat) (k : Int) {t el sz : Nat} {ik : IntKind} {y : Operand} (hA : A = some ad) (hu : ∀ w, (underlying t).run C.P w = .ok (.slice el) w) (hz : ∀ w, (sizeOf el).run C.P w = .ok sz w) (h0 : 0 ≤ k) (h1 : k < (n : Int)) (ho : o.op = .indexAddr t (.tmp p) y := by rfl) (hd : o.guard = some (j, b) := by rfl) (ht : (ops[j]?).bind (·.dst) = some t0 := by rfl) (hl : ltB o.dst C.n = true := by rfl) (hc : covers o (cc xs) = true := by rfl)
    (hx : ∀ ν, ev ν (cc xs) (.tmp p) = .slice A n cap := by exact fun _ => rfl) (hy : ∀ ν, ev ν (cc xs) y = .int ik k := by exact fun _ => rfl) : Sound C ops i o ⟨o.dst, [(t0, .c (.bool b))] ++ cc xs, [], .c (.pointer (some (ad.add (k.toNat * sz)))), none⟩ := by subst hA; exact os_index (.yes j t0 b hd ht) hl ho hc hx hy hu hz h0 h1
end
end Go.Sx
