/- A reckoner of closed runs, its tenth part: regions. No program in it. -/
import Derived.Test.YtgpgppjfjeiceaaDoorX9
namespace Go.Xe
open Go.RowKit

/-! ## what is known of memory, by names -/
structure MemOk [Sy] (G : Nat) (S : Nat → Prop) (ws : World) (ν : Val) (h : Nat → Option SObj) (w : World) : Prop where
  obj : ∀ n o, h n = some o → o.den ν n w
  inj : ∀ n m o o', h n = some o → h m = some o' → (ν n).b = (ν m).b → n = m
  out : ∀ n o, h n = some o → S (ν n).b → ws.heap.size ≤ (ν n).b
  glob : ∀ g, g < G → ν g = ⟨g, 0⟩
  grow : Below 0 ws w
  same : ∀ k, S k → k < ws.heap.size → w.heap[k]? = ws.heap[k]?
def lt (c : Nat) : Nat → Bool := fun k => Nat.blt k c
theorem lt_mono [Sy] {c c' : Nat} (h : c ≤ c') : ∀ k, lt c k = true → lt c' k = true := fun k hk => by
  have := blt_true hk
  simp only [lt, Nat.blt_eq]
  omega
def HpOk (c : Nat) (H : Hp) : Prop := ∀ n o, hget n H = some o → n < c ∧ o.ok (lt c) = true
def stOf (n : Nat) (T : Tm) (H : Hp) (c : Nat) : St := ⟨fun t => if t < n then some (tget t T) else none, fun m => hget m H, lt c⟩
theorem stOf_ok [Sy] {n : Nat} {T : Tm} {H : Hp} {c : Nat} (hT : okT (lt c) T = true) (hH : HpOk c H) : (∀ t v, (stOf n T H c).slots t = some v → okV (stOf n T H c).dom v = true) ∧ (∀ m o, (stOf n T H c).heap m = some o → (stOf n T H c).dom m = true ∧ o.ok (stOf n T H c).dom = true) := by
  refine ⟨fun t v h => ?_, fun m o h => ?_⟩
  · simp only [stOf] at h
    split at h
    · injection h with h; subst h; exact okT_get hT
    · cases h
  · have := hH m o h
    exact ⟨by simpa [stOf, lt] using this.1, this.2⟩
theorem Sat.mem [Sy] {C : Cx} {n : Nat} {T : Tm} {H : Hp} {c : Nat} {ν : Val} {a : Act} {w : World} (h : Sat C (stOf n T H c) ν a w) : MemOk C.G C.S C.ws ν (fun m => hget m H) w :=
  ⟨h.obj, h.inj, h.out, h.glob, h.ok.grow, h.ok.same⟩
theorem MemOk.sat [Sy] {C : Cx} {T : Tm} {H : Hp} {c : Nat} {ν : Val} {a : Act} {w : World} (h : MemOk C.G C.S C.ws ν (fun m => hget m H) w) (hn : a.tmps.size = C.n) (hd : a.defers = C.defs) (hs : ∀ t, t < C.n → a.tmps[t]? = some (rn ν (tget t T)))
    (hT : okT (lt c) T = true) (hH : HpOk c H) (hG : C.G ≤ c) : Sat C (stOf C.n T H c) ν a w := by
  obtain ⟨h1, h2⟩ := stOf_ok (n := C.n) hT hH
  refine ⟨hn, hd, ?_, h.obj, h.inj, h.out, h.glob, ⟨h.grow, h.same⟩, h1, h2, fun g hg => ?_⟩
  · intro t v ht
    simp only [stOf] at ht
    split at ht
    · injection ht with ht; subst ht; exact hs t ‹_›
    · cases ht
  · simp only [stOf, lt, Nat.blt_eq]; omega

/-! ## operands -/
theorem evT_ok [Sy] {G n c : Nat} {T : Tm} {x : Operand} (hT : okT (lt c) T = true) (hx : okO G n x = true) (hG : G ≤ c) : okV (lt c) (evT T x) = true := by
  cases x with
  | tmp t => exact okT_get hT
  | const v => exact okV_mono (fun k hk => by cases hk) v hx
  | global g =>
    have := blt_true hx
    simp only [evT, okV, lt, Nat.blt_eq]
    omega
  | func f => rfl
theorem eval_evT [Sy] {G n : Nat} {T : Tm} {ν : Val} {a : Act} {x : Operand} (hx : okO G n x = true) (hg : ∀ g, g < G → ν g = ⟨g, 0⟩) (hs : ∀ t, x = .tmp t → a.tmps[t]? = some (rn ν (tget t T))) : a.eval x = rn ν (evT T x) := by
  cases x with
  | tmp t =>
    simp only [Act.eval, Array.getD_eq_getD_getElem?, hs t rfl, Option.getD_some, evT]
  | const v => exact (rn_id v hx).symm
  | global g =>
    have := blt_true hx
    simp only [Act.eval, evT, rn, Option.map_some, rnA, hg g this]
  | func f => rfl
theorem mem_tmps {t : Nat} : ∀ {l : List Operand}, .tmp t ∈ l → t ∈ tmpsOf l
  | [], h => by simp at h
  | x :: r, h => by
    cases x with
    | tmp u =>
      rcases List.mem_cons.1 h with q | q
      · injection q with q; subst q; simp [tmpsOf]
      · simp [tmpsOf, mem_tmps q]
    | const v =>
      rcases List.mem_cons.1 h with q | q
      · cases q
      · exact (show t ∈ tmpsOf r from mem_tmps q)
    | global v =>
      rcases List.mem_cons.1 h with q | q
      · cases q
      · exact (show t ∈ tmpsOf r from mem_tmps q)
    | func v =>
      rcases List.mem_cons.1 h with q | q
      · cases q
      · exact (show t ∈ tmpsOf r from mem_tmps q)
structure OperOk (G n : Nat) (ops : List Oper) (o : Oper) : Prop where
  ltn : ∀ t, t ∈ needs ops o → t < n
  opr : ∀ x, x ∈ o.op.operands.toList → okO G n x = true
  dst : ∀ d, o.dst = some d → d < n
  sel : ∀ cs b, o.op ≠ .select cs b
  dfr : ∀ c, o.op ≠ .defer c
  guard : o.guard = none ∨ ∃ j b t, o.guard = some (j, b) ∧ (ops[j]?).bind (·.dst) = some t
theorem operOk [Sy] {G n : Nat} {ops : List Oper} {o : Oper} (h : okOper G n ops o = true) : OperOk G n ops o := by
  simp only [okOper, Bool.and_eq_true] at h
  obtain ⟨h1, h2, h3, h4, h5⟩ := h
  refine ⟨fun t ht => blt_true (List.all_eq_true.1 h1 t ht), fun x hx => List.all_eq_true.1 h2 x hx, fun d hd => ?_, fun cs b q => ?_, fun c q => ?_, ?_⟩
  · rw [hd] at h3; exact blt_true h3
  · rw [q] at h4; cases h4
  · rw [q] at h4; cases h4
  · cases hg : o.guard with
    | none => exact .inl rfl
    | some p =>
      obtain ⟨j, b⟩ := p
      rw [hg] at h5
      simp only at h5
      obtain ⟨t, ht⟩ := Option.isSome_iff_exists.1 h5
      refine .inr ⟨j, b, t, rfl, ?_⟩
      simpa [guardT, hg] using ht
theorem wanted_eq [Sy] {ν : Val} {ops : List Oper} {T : Tm} {o : Oper} {a : Act} (hg : o.guard = none ∨ ∃ j b t, o.guard = some (j, b) ∧ (ops[j]?).bind (·.dst) = some t) (hs : ∀ t, t ∈ needs ops o → a.tmps[t]? = some (rn ν (tget t T))) :
    Region.wanted o (yielded ops.toArray a.tmps) = wantedT ops T o := by
  rcases hg with hg | ⟨j, b, t, hg, ht⟩
  · unfold Region.wanted wantedT
    rw [hg]
  · have hn : t ∈ needs ops o := by simp [needs, guardT, hg, ht]
    have := hs t hn
    unfold Region.wanted wantedT yielded
    rw [hg]
    simp only [List.getElem?_toArray, ht, Option.bind_some, this]
    generalize tget t T = v
    cases v <;> first
      | rfl
      | (rename_i b'; cases b <;> cases b' <;> rfl)
      | (rename_i x _ _; cases x <;> rfl)
def xsOf (ops : List Oper) (T : Tm) (o : Oper) : Nat → Option Value := fun t => bif inB t (needs ops o) then some (tget t T) else none
theorem xs_at [Sy] {ops : List Oper} {T : Tm} {o : Oper} {t : Nat} (h : t ∈ needs ops o) : xsOf ops T o t = some (tget t T) := by simp [xsOf, inB_iff.2 h]
theorem need_tmp [Sy] {ops : List Oper} {o : Oper} {t : Nat} (h : .tmp t ∈ o.op.operands.toList) : t ∈ needs ops o := by
  unfold needs
  split
  · exact List.mem_cons_of_mem _ (mem_tmps h)
  · exact mem_tmps h
/-- The entry of an operation, as the executor made it. -/
def entX (ops : List Oper) (T : Tm) (o : Oper) (H : Hp) (c : Nat) (e : En) : Ent := entOf c o.dst (xsOf ops T o) H e
theorem semAt_exec {o : Oper} {ro : Option Nat} {ρ : Operand → Value} (h : ∀ c, o.op ≠ .defer c) : o.semAt (fence ro).round ρ = execOp ρ o := Oper.semAt_eq _ _ _ h
/-- (1) An operation that is passed over. -/
theorem sound_skip [Sy] {ro : Option Nat} {C : Cx} {ops : List Oper} {o : Oper} {T : Tm} {H : Hp} {c : Nat} (ho : OperOk C.G C.n ops o) (hw : wantedT ops T o = false) : Sound ro C ops.toArray o (entX ops T o H c (pureE undef)) := by
  refine ⟨rfl, ho.dst, ?_⟩
  intro ν a w K Q hL hK
  have hwe := wanted_eq (ν := ν) (T := T) (a := a) ho.guard (fun t ht => hL.xs t _ (xs_at ht))
  rw [hwe, hw]
  simp only [Bool.false_eq_true, if_false]
  refine ⟨fun f _ => fn_any ro f, ?_⟩
  exact hK ν w ⟨fun _ _ => rfl, Below.refl 0 w, fun _ _ _ => rfl, fun m o' hm => by simp [entX, entOf, pureE, inB] at hm, fun m o' hm => by simp [entX, entOf, pureE, inB, hget] at hm, fun m k o1 o2 hm => by simp [entX, entOf, pureE, inB, hget] at hm⟩
theorem post_x [Sy] {ops : List Oper} {T : Tm} {o : Oper} {H : Hp} {c : Nat} {e : En} {ν ν' : Val} {w w' : World} (h : PostE c H e ν ν' w w') : Post (entX ops T o H c e) ν ν' w w' := ⟨h.ext, h.grow, h.frame, h.keep, h.new, h.inj⟩
theorem exec_eq [Sy] {C : Cx} {ops : List Oper} {o : Oper} {T : Tm} {ν : Val} {a : Act} (ho : OperOk C.G C.n ops o) (hg : ∀ g, g < C.G → ν g = ⟨g, 0⟩) (hs : ∀ t, t ∈ needs ops o → a.tmps[t]? = some (rn ν (tget t T))) :
    execOp a.eval o = execOp (fun x => rn ν (evT T x)) o :=
  execOp_congr o ho.sel (fun x hx => by
    have hx' := Array.mem_toList_iff.2 hx
    exact eval_evT (ho.opr x hx') hg (fun t ht => hs t (need_tmp (ht ▸ hx'))))
/-- (2) An operation that calls nothing. -/
theorem sound_op [Sy] {ro : Option Nat} {C : Cx} {ops : List Oper} {o : Oper} {T : Tm} {H : Hp} {c : Nat} {e : En} (ho : OperOk C.G C.n ops o) (hw : wantedT ops T o = true) (h : opS C.P C.G (evT T) H c o = some e)
    (hT : okT (lt c) T = true) (hH : HpOk c H) (hG : C.G ≤ c) : Sound ro C ops.toArray o (entX ops T o H c e) := by
  refine ⟨rfl, ho.dst, ?_⟩
  intro ν a w K Q hL hK
  have hs : ∀ t, t ∈ needs ops o → a.tmps[t]? = some (rn ν (tget t T)) := fun t ht => hL.xs t _ (xs_at ht)
  have hwe := wanted_eq (ν := ν) (T := T) (a := a) ho.guard hs
  rw [hwe, hw]
  simp only [if_true]
  have hrd : ∀ m u, m ∈ e.rd → hget m H = some u → (entX ops T o H c e).rd m = some u := fun m u h1 h2 => by simp [entX, entOf, inB_iff.2 h1, h2]
  obtain ⟨ν', w', hr, hp⟩ := opS_run (P := C.P) (w := w) (ν := ν) h ⟨fun n u h1 h2 => hL.rd n u (hrd n u h1 h2)⟩
    (fun m k u u' h1 h2 h3 h4 => hL.inj m k u u' (hrd m u h1 h3) (hrd k u' h2 h4)) (fun n u h1 h2 => hH n u h2) (fun x hx => evT_ok hT (ho.opr x hx) hG)
  refine ⟨fun f _ => fn_any ro f, ?_⟩
  rw [semAt_exec ho.dfr, exec_eq ho hL.glob hs]
  have hk := hK ν' w' (post_x hp)
  rcases hr with hr | ⟨hr, hv⟩
  · rw [hr]; exact hk
  · rw [hr]
    have : rn ν' (entX ops T o H c e).v = undef := by
      show rn ν' e.v = undef
      rw [hv]; rfl
    rw [this] at hk
    exact hk

/-! ## calls and rounds -/
structure Env.Ok [Sy] (E : Env) : Prop where
  pur : ∀ f args v, E.pur f args = some v → ∀ ν w, (callFunc f (rnL ν args).toArray).run E.P w = .ok (.value (rn ν v)) w ∨
    ((callFunc f (rnL ν args).toArray).run E.P w = .ok (.enter f (rnL ν args).toArray) w ∧ Calls E.P f (rnL ν args).toArray w fun e w' => e = .returned (rn ν v) ∧ Below w.heap.size w w')
  ext : ∀ f args c e, E.ext f args c = some e → ∀ (H : Hp) ν w, (∀ n o, n ∈ e.rd → hget n H = some o → o.den ν n w) → (∀ n o, n ∈ e.rd → hget n H = some o → n < c ∧ o.ok (fun k => Nat.blt k c) = true) →
    ∃ ν' w', (callFunc f (rnL ν args).toArray).run E.P w = .ok (.value (rn ν' e.v)) w' ∧ PostE c H e ν ν' w w'
  bin : ∀ op t x y v, E.bin op t x y = some v → ∀ ν : Val, okV (fun _ => false) (rn ν x) = true ∧ okV (fun _ => false) (rn ν y) = true ∧ okV (fun _ => false) (rn ν v) = true ∧ binS E.P op t (rn ν x) (rn ν y) = some (rn ν v)
  cnv : ∀ s d x v, E.cnv s d x = some v → ∀ ν : Val, ∃ k a k' b, rn ν x = .int k a ∧ rn ν v = .int k' b ∧ convS E.P s d (.int k a) = some (.int k' b)
/-- What a call, or a round, comes to. -/
structure Came (G : Nat) (args : List Value) (H : Hp) (c : Nat) (v : Value) (H' : Hp) (c' : Nat) : Prop where
  le : c ≤ c'
  v : okV (lt c') v = true
  hp : HpOk c' H'
  new : ∀ n, hget n H = none → hget n H' ≠ none → c ≤ n
def Ends [Sy] (G : Nat) (c c' : Nat) (v : Value) (H' : Hp) (S : Nat → Prop) (ws : World) (ν : Val) : Ending → World → Prop := fun e w' => ∃ ν', e = .returned (rn ν' v) ∧ (∀ k, inR c c' k = false → ν' k = ν k) ∧ MemOk G S ws ν' (fun m => hget m H') w'
def CallOk [Sy] (E : Env) (call : Orc) : Prop := ∀ f args H c v H' c', call f args H c = some (v, H', c') → E.G ≤ c → okL (lt c) args = true → HpOk c H →
  Came E.G args H c v H' c' ∧
  (∀ as w, (callFunc f as).run E.P w = .ok (.enter f as) w) ∧
  ∀ (S : Nat → Prop) (ws : World) ν w, MemOk E.G S ws ν (fun m => hget m H) w → Calls E.P f (rnL ν args).toArray w (Ends E.G c c' v H' S ws ν)
def RndOk [Sy] (E : Env) (rnd : Rnd) : Prop := ∀ l args H c v H' c', rnd l args H c = some (v, H', c') → E.G ≤ c → okL (lt c) args = true → HpOk c H →
  Came E.G args H c v H' c' ∧
  ∀ (S : Nat → Prop) (ws : World) ν w, MemOk E.G S ws ν (fun m => hget m H) w → ∃ fn tmps assign body, (Instr.yield (ν l).b (rnL ν args).toArray).run E.P w = .ok (.round (ν l).b fn tmps assign body) w ∧
    ∀ ro, RoundIn (fence ro) 0 E.P (ν l).b fn tmps assign body w (Ends E.G c c' v H' S ws ν)
theorem calls_in {ro : Option Nat} {n : Nat} {P : Program} {f : FuncId} {args : Array Value} {w : World} {R : Ending → World → Prop} (h : Calls P f args w R) : CallsIn (fence ro) n P f args w R :=
  show CallsIn Fence.wide n P f args w R from callsIn_wide.2 h
end Go.Xe
