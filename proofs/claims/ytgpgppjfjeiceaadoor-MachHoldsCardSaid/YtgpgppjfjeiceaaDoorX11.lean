/- A reckoner of closed runs, its eleventh part: operations that call; regions. No program in it. -/
import Derived.Test.YtgpgppjfjeiceaaDoorX10
namespace Go.Xe
open Go.RowKit

/-- What a call leaves, as an entry takes it. -/
theorem far_post [Sy] {G : Nat} {e : Ent} {ν ν' : Val} {w w' : World} {Hr H' : Hp} {c c' : Nat} (hlo : e.lo = c) (hhi : e.hi = c') (hrd : ∀ n, e.rd n = hget n Hr) (hup1 : ∀ n, e.up n = none → hget n H' = hget n Hr) (hup2 : ∀ n u, e.up n = some u → u = hget n H')
    (hk : HpOk c Hr) (hext : ∀ k, inR c c' k = false → ν' k = ν k) (hm : MemOk G (fun k => k < w.heap.size ∧ ∀ m o, e.rd m = some o → k ≠ (ν m).b) w ν' (fun m => hget m H') w') : Post e ν ν' w w' := by
  refine ⟨fun k hq => hext k (by rw [← hlo, ← hhi]; exact hq), hm.grow, fun k hk hne => hm.same k ⟨hk, hne⟩ hk, ?_, ?_, ?_⟩
  · intro m o hr hu
    exact hm.obj m o (by show hget m H' = some o; rw [hup1 m hu, ← hrd m]; exact hr)
  · intro m o hu
    have hg : hget m H' = some o := (hup2 m _ hu).symm
    refine ⟨hm.obj m o hg, ?_⟩
    by_cases hlt : (ν' m).b < w.heap.size
    · right
      have hnS : ¬ ∀ k o', e.rd k = some o' → (ν' m).b ≠ (ν k).b := fun hall => by
        have := hm.out m o hg ⟨hlt, hall⟩
        omega
      obtain ⟨k, hk1⟩ := Classical.not_forall.1 hnS
      obtain ⟨o', hk2⟩ := Classical.not_forall.1 hk1
      obtain ⟨hk3, hk4⟩ := Classical.not_imp.1 hk2
      have hb : (ν' m).b = (ν k).b := Classical.not_not.1 hk4
      refine ⟨k, o', hk3, fun hq => ?_, hb⟩
      have hkr : hget k Hr = some o' := by rw [← hrd k]; exact hk3
      have hkc : k < c := (hk k o' hkr).1
      have hνk : ν' k = ν k := hext k (by
        cases hb : inR c c' k
        · rfl
        · have := (inR_iff.1 hb).1; omega)
      have : m = k := hm.inj m k o o' hg (by show hget k H' = some o'; rw [hup1 k hq]; exact hkr) (by rw [hb, hνk])
      subst this
      rw [hq] at hu; cases hu
    · left; omega
  · intro m k o o' h1 h2 hb
    exact hm.inj m k o o' (hup2 m _ h1).symm (hup2 k _ h2).symm hb
theorem okL_map [Sy] {c : Nat} {G n : Nat} {T : Tm} (hT : okT (lt c) T = true) (hG : G ≤ c) : ∀ (l : List Operand), (∀ x, x ∈ l → okO G n x = true) → okL (lt c) (l.map (evT T)) = true
  | [], _ => rfl
  | x :: r, h => by
    simp only [List.map_cons, okL, Bool.and_eq_true]
    exact ⟨evT_ok hT (h x (by simp)) hG, okL_map hT hG r fun y hy => h y (by simp [hy])⟩
theorem todo_inv {ρ : Operand → Value} {o : Oper} {td : Todo} (h : todoS ρ o = some td) : ∃ f args ts, o.op = .call ⟨.value f, args, ts⟩ ∧
    ((∃ g first cap, ρ f = .func (.func g) first cap ∧ td = .call g (first.toList ++ args.toList.map ρ ++ cap.toList)) ∨ (∃ l first cap, ρ f = .func (.yield l) first cap ∧ td = .round l (first.toList ++ args.toList.map ρ))) := by
  unfold todoS at h
  split at h
  · rename_i cl ho
    obtain ⟨callee, args, ts⟩ := cl
    simp only at h
    split at h
    · rename_i f
      split at h
      · rename_i g first cap hf
        injection h with h
        exact ⟨f, args, ts, ho, .inl ⟨g, first, cap, hf, h.symm⟩⟩
      · rename_i l first cap hf
        injection h with h
        exact ⟨f, args, ts, ho, .inr ⟨l, first, cap, hf, h.symm⟩⟩
      · cases h
    · cases h
  · cases h
def Todo.args : Todo → List Value
  | .call _ as => as
  | .round _ as => as
theorem todo_args [Sy] {c G n : Nat} {T : Tm} {o : Oper} {ops : List Oper} {td : Todo} (ho : OperOk G n ops o) (h : todoS (evT T) o = some td) (hT : okT (lt c) T = true) (hG : G ≤ c) : okL (lt c) td.args = true := by
  obtain ⟨f, args, ts, hop, hcase⟩ := todo_inv h
  have hf : okV (lt c) (evT T f) = true := evT_ok hT (ho.opr f (by rw [hop]; simp [Op.operands, Call.operands])) hG
  have hargs : okL (lt c) (args.toList.map (evT T)) = true := okL_map (n := n) hT hG _ fun x hx => ho.opr x (by rw [hop]; simp [Op.operands, Call.operands]; exact .inr (by simpa using hx))
  have arr : ∀ a : Array Value, okR (lt c) a = true → okL (lt c) a.toList = true := fun a h => by cases a; exact h
  rcases hcase with ⟨g, first, cap, he, rfl⟩ | ⟨l, first, cap, he, rfl⟩
  · rw [he] at hf
    simp only [okV, Bool.and_eq_true] at hf
    exact okL_app (okL_app (arr _ hf.2.1) hargs) (arr _ hf.2.2)
  · rw [he] at hf
    simp only [okV, Bool.and_eq_true] at hf
    exact okL_app (arr _ hf.2.1) hargs
theorem todo_run [Sy] {P : Program} {ρ : Operand → Value} {o : Oper} {td : Todo} {ν : Val} {w : World} (h : todoS ρ o = some td) :
    (execOp (fun x => rn ν (ρ x)) o).run P w = match td with
      | .call g as => (callFunc g (rnL ν as).toArray).run P w
      | .round l as => (Instr.yield (ν l).b (rnL ν as).toArray).run P w := by
  obtain ⟨f, args, ts, hop, hcase⟩ := todo_inv h
  have hm : args.map (fun x => rn ν (ρ x)) = (rnL ν (args.toList.map ρ)).toArray := by
    apply Array.ext'
    simp [rnL_eq]
  rcases hcase with ⟨g, first, cap, he, rfl⟩ | ⟨l, first, cap, he, rfl⟩
  · have e : (rnR ν first ++ (rnL ν (args.toList.map ρ)).toArray ++ rnR ν cap) = (rnL ν (first.toList ++ args.toList.map ρ ++ cap.toList)).toArray := by
      apply Array.ext'
      simp [rnL_app, rnR_toList]
    simp only [execOp, hop, resolve, he, rn, rnFn, Deferred.ofValue, hm]
    simp [invoke, e]
  · have e : (rnR ν first ++ (rnL ν (args.toList.map ρ)).toArray) = (rnL ν (first.toList ++ args.toList.map ρ)).toArray := by
      apply Array.ext'
      simp [rnL_app, rnR_toList]
    simp only [execOp, hop, resolve, he, rn, rnFn, Deferred.ofValue, hm]
    simp [invoke, e]
theorem far_mem [Sy] {C : Cx} {e : Ent} {ν : Val} {a : Act} {w : World} {Hr : Hp} (hrd : ∀ n, e.rd n = hget n Hr) (hL : Loc C e ν a w) :
    MemOk C.G (fun k => k < w.heap.size ∧ ∀ m o, e.rd m = some o → k ≠ (ν m).b) w ν (fun m => hget m Hr) w := by
  refine ⟨fun n o h => hL.rd n o (by rw [hrd n]; exact h), fun n m o o' h1 h2 => hL.inj n m o o' (by rw [hrd n]; exact h1) (by rw [hrd m]; exact h2), ?_, hL.glob, Below.refl 0 w, fun _ _ _ => rfl⟩
  intro n o h hS
  exact absurd rfl (hS.2 n o (by rw [hrd n]; exact h))
/-- (3) An operation that calls, or that asks for a round. -/
theorem sound_far [Sy] {E : Env} {call : Orc} {rnd : Rnd} (hc : CallOk E call) (hr : RndOk E rnd) {ro : Option Nat} {C : Cx} (hP : C.P = E.P) (hEG : C.G = E.G) {ops : List Oper} {o : Oper} {T : Tm} {c c' : Nat} {Hr H' : Hp} {v : Value} {td : Todo} {e : Ent} (ho : OperOk C.G C.n ops o)
    (hw : wantedT ops T o = true) (htd : todoS (evT T) o = some td) (h : doTodo call rnd Hr c td = some (v, H', c')) (hT : okT (lt c) T = true) (hH : HpOk c Hr) (hG : C.G ≤ c)
    (hdst : e.dst = o.dst) (hxs : e.xs = xsOf ops T o) (hv : e.v = v) (hlo : e.lo = c) (hhi : e.hi = c') (hrd : ∀ n, e.rd n = hget n Hr) (hup1 : ∀ n, e.up n = none → hget n H' = hget n Hr) (hup2 : ∀ n u, e.up n = some u → u = hget n H') : Sound ro C ops.toArray o e := by
  refine ⟨hdst, ho.dst, ?_⟩
  intro ν a w K Q hL hK
  have hs : ∀ t, t ∈ needs ops o → a.tmps[t]? = some (rn ν (tget t T)) := fun t ht => hL.xs t _ (by rw [hxs]; exact xs_at ht)
  have hwe := wanted_eq (ν := ν) (T := T) (a := a) ho.guard hs
  rw [hwe, hw]
  simp only [if_true]
  refine ⟨fun f _ => fn_any ro f, ?_⟩
  rw [semAt_exec ho.dfr, exec_eq ho hL.glob hs, todo_run htd]
  have hargs := todo_args (n := C.n) ho htd hT hG
  have hmem := far_mem hrd hL
  have fin : ∀ ν' w', (∀ k, inR c c' k = false → ν' k = ν k) → MemOk C.G (fun k => k < w.heap.size ∧ ∀ m o, e.rd m = some o → k ≠ (ν m).b) w ν' (fun m => hget m H') w' → K (a.put o.dst (rn ν' v)) w' := by
    intro ν' w' h1 h2
    have := hK ν' w' (far_post hlo hhi hrd hup1 hup2 hH h1 h2)
    rwa [hv] at this
  cases td with
  | call g as =>
    simp only [doTodo] at h
    obtain ⟨_, hcf, hcall⟩ := hc g as Hr c v H' c' h (hEG ▸ hG) hargs hH
    rw [hP]
    simp only
    rw [hcf]
    refine ⟨fun q => by simp [fence, Fence.wide] at q, calls_in ?_⟩
    have := hcall _ w ν w (hEG ▸ hmem)
    refine this.mono ?_
    rintro e' w' ⟨ν', rfl, h1, h2⟩
    exact fin ν' w' h1 (hEG ▸ h2)
  | round l as =>
    simp only [doTodo] at h
    obtain ⟨_, hround⟩ := hr l as Hr c v H' c' h (hEG ▸ hG) hargs hH
    obtain ⟨fn, tmps, assign, body, hy, hrnd⟩ := hround _ w ν w (hEG ▸ hmem)
    rw [hP]
    simp only
    rw [hy]
    refine ⟨fun q => by simp [fence, Fence.wide] at q, ?_⟩
    refine (hrnd ro).mono ?_
    rintro e' w' ⟨ν', rfl, h1, h2⟩
    exact fin ν' w' h1 (hEG ▸ h2)
/-- (4) A call that is known to be a value alone. -/
theorem sound_pur [Sy] {E : Env} (hE : E.Ok) {ro : Option Nat} {C : Cx} (hP : C.P = E.P) {ops : List Oper} {o : Oper} {T : Tm} {c : Nat} {H : Hp} {v : Value} {td : Todo} (ho : OperOk C.G C.n ops o)
    (hw : wantedT ops T o = true) (htd : todoS (evT T) o = some td) (h : pureTodo E td = some v) : Sound ro C ops.toArray o (entX ops T o H c (pureE v)) := by
  refine ⟨rfl, ho.dst, ?_⟩
  intro ν a w K Q hL hK
  have hs : ∀ t, t ∈ needs ops o → a.tmps[t]? = some (rn ν (tget t T)) := fun t ht => hL.xs t _ (xs_at ht)
  have hwe := wanted_eq (ν := ν) (T := T) (a := a) ho.guard hs
  rw [hwe, hw]
  simp only [if_true]
  refine ⟨fun f _ => fn_any ro f, ?_⟩
  rw [semAt_exec ho.dfr, exec_eq ho hL.glob hs, todo_run htd]
  have none_rd : ∀ m, (entX ops T o H c (pureE v)).rd m = none := fun m => by simp [entX, entOf, pureE, inB]
  have none_up : ∀ m, (entX ops T o H c (pureE v)).up m = none := fun m => by simp [entX, entOf, pureE, inB, hget]
  have fin : ∀ w', Below w.heap.size w w' → K (a.put o.dst (rn ν v)) w' := fun w' hb => hK ν w' ⟨fun _ _ => rfl, hb.mono (Nat.zero_le _), fun k hk _ => hb.block k hk, fun m o' hm => (by rw [none_rd] at hm; cases hm), fun m o' hm => (by rw [none_up] at hm; cases hm), fun m k o1 o2 hm => (by rw [none_up] at hm; cases hm)⟩
  cases td with
  | round l as => cases h
  | call g as =>
    rw [hP]
    simp only
    rcases hE.pur g as v h ν w with hq | ⟨hq, hcall⟩
    · rw [hq]
      exact fin w (Below.refl _ w)
    · rw [hq]
      refine ⟨fun q => by simp [fence, Fence.wide] at q, calls_in ?_⟩
      refine hcall.mono ?_
      rintro e' w' ⟨rfl, hb⟩
      exact fin w' hb
/-- (5) A call that makes memory, and is answered at once. -/
theorem sound_ext [Sy] {E : Env} (hE : E.Ok) {ro : Option Nat} {C : Cx} (hP : C.P = E.P) {ops : List Oper} {o : Oper} {T : Tm} {c : Nat} {H : Hp} {e : En} {td : Todo} (ho : OperOk C.G C.n ops o)
    (hw : wantedT ops T o = true) (htd : todoS (evT T) o = some td) (h : extTodo E c td = some e) (hH : HpOk c H) : Sound ro C ops.toArray o (entX ops T o H c e) := by
  refine ⟨rfl, ho.dst, ?_⟩
  intro ν a w K Q hL hK
  have hs : ∀ t, t ∈ needs ops o → a.tmps[t]? = some (rn ν (tget t T)) := fun t ht => hL.xs t _ (xs_at ht)
  have hwe := wanted_eq (ν := ν) (T := T) (a := a) ho.guard hs
  rw [hwe, hw]
  simp only [if_true]
  refine ⟨fun f _ => fn_any ro f, ?_⟩
  rw [semAt_exec ho.dfr, exec_eq ho hL.glob hs, todo_run htd]
  have hrd : ∀ m u, m ∈ e.rd → hget m H = some u → (entX ops T o H c e).rd m = some u := fun m u h1 h2 => by simp [entX, entOf, inB_iff.2 h1, h2]
  cases td with
  | round l as => cases h
  | call g as =>
    rw [hP]
    simp only
    obtain ⟨ν', w', hq, hp⟩ := hE.ext g as c e h H ν w (fun n u h1 h2 => hL.rd n u (hrd n u h1 h2)) (fun n u _ h2 => hH n u h2)
    rw [hq]
    exact hK ν' w' (post_x hp)
/-- (6) An operation on numbers that stand for themselves. -/
theorem sound_sym [Sy] {E : Env} (hE : E.Ok) {ro : Option Nat} {C : Cx} (hP : C.P = E.P) {ops : List Oper} {o : Oper} {T : Tm} {c : Nat} {H : Hp} {v : Value} (ho : OperOk C.G C.n ops o)
    (hw : wantedT ops T o = true) (h : symE E (evT T) o = some v) : Sound ro C ops.toArray o (entX ops T o H c (pureE v)) := by
  refine ⟨rfl, ho.dst, ?_⟩
  intro ν a w K Q hL hK
  have hs : ∀ t, t ∈ needs ops o → a.tmps[t]? = some (rn ν (tget t T)) := fun t ht => hL.xs t _ (xs_at ht)
  have hwe := wanted_eq (ν := ν) (T := T) (a := a) ho.guard hs
  rw [hwe, hw]
  simp only [if_true]
  refine ⟨fun f _ => fn_any ro f, ?_⟩
  rw [semAt_exec ho.dfr, exec_eq ho hL.glob hs]
  have none_rd : ∀ m, (entX ops T o H c (pureE v)).rd m = none := fun m => by simp [entX, entOf, pureE, inB]
  have none_up : ∀ m, (entX ops T o H c (pureE v)).up m = none := fun m => by simp [entX, entOf, pureE, inB, hget]
  have fin : K (a.put o.dst (rn ν v)) w := hK ν w ⟨fun _ _ => rfl, Below.refl 0 w, fun _ _ _ => rfl, fun m o' hm => (by rw [none_rd] at hm; cases hm), fun m o' hm => (by rw [none_up] at hm; cases hm), fun m k o1 o2 hm => (by rw [none_up] at hm; cases hm)⟩
  unfold symE at h
  split at h
  · rename_i op t x y yt hop
    obtain ⟨h1, h2, h3, h4⟩ := hE.bin op t _ _ v h ν
    obtain ⟨g1, g2⟩ := binS_run (P := E.P) (w := w) (x := x) (y := y) ν h4
    rw [rn_id _ h1, rn_id _ h2] at g1 g2
    rw [rn_id _ h3] at g2
    have hr : (execOp (fun x => rn ν (evT T x)) o).run C.P w = .ok (.value (rn ν v)) w := by
      rw [hP]
      simp [execOp, hop, g1, g2]
    rw [hr]
    exact fin
  · rename_i s d x hop
    obtain ⟨k, i, k', j, h1, h2, h3⟩ := hE.cnv s d _ v h ν
    have hr : (execOp (fun x => rn ν (evT T x)) o).run C.P w = .ok (.value (rn ν v)) w := by
      have := conv_run (w := w) ν (hP ▸ h3 : convS C.P s d (.int k i) = some (.int k' j))
      simp only [execOp, hop, h1, h2]
      have this' : (convert s d (.int k i)).run C.P w = .ok (.int k' j) w := this
      simp [this']
    rw [hr]
    exact fin
  · cases h

/-! ## regions -/
theorem hget_sets [Sy] {m : Nat} : ∀ (up H : Hp), hget m (hsets up H) = match hget m up with
    | some o => some o
    | none => hget m H
  | [], H => rfl
  | (n, o) :: r, H => by
    simp only [hsets, hget_set, hget]
    by_cases q : n = m
    · subst q; simp
    · rw [if_neg q, beq_ne q]
      exact hget_sets r H
theorem hget_dels [Sy] {m : Nat} : ∀ (del : List Nat) (H : Hp), hget m (hdels del H) = bif inB m del then none else hget m H
  | [], H => by simp [hdels, inB]
  | n :: r, H => by
    simp only [hdels, hget_dels r, hget_del, inB]
    by_cases q : n = m
    · subst q; simp
    · rw [beq_ne q]; simp [q]
theorem put_slots [Sy] {n : Nat} {T : Tm} (d : Option Nat) {v : Value} : (∀ t, d = some t → t < n) → (fun t => match d with
    | some k => cond (Nat.beq k t) (some v) (if t < n then some (tget t T) else none)
    | none => if t < n then some (tget t T) else none) = fun t => if t < n then some (tget t (putT T d v)) else none := by
  intro hd
  funext t
  cases d with
  | none => rfl
  | some k =>
    simp only [putT, tget]
    cases hb : Nat.beq k t with
    | true =>
      obtain rfl := beq_true hb
      simp [hd k rfl]
    | false => rfl
theorem hup_mem [Sy] {n : Nat} {o : SObj} : ∀ {H : Hp}, hget n H = some o → (n, o) ∈ H
  | [], h => by cases h
  | (m, u) :: r, h => by
    simp only [hget] at h
    cases hb : Nat.beq m n with
    | true =>
      rw [hb] at h
      obtain rfl := beq_true hb
      injection h with h; subst h
      simp
    | false =>
      rw [hb] at h
      exact List.mem_cons_of_mem _ (hup_mem h)
structure Bound (H : Hp) (c : Nat) (e : En) : Prop where
  v : okV (lt (c + e.k)) e.v = true
  up : ∀ n o, hget n e.up = some o → o.ok (lt (c + e.k)) = true ∧ (inR c (c + e.k) n = true ∨ (n ∈ e.rd ∧ ∃ u, hget n H = some u))
  del : ∀ n, n ∈ e.del → n ∈ e.rd ∧ ∃ u, hget n H = some u
theorem hasK_some {n : Nat} {H : Hp} (h : hasK n H = true) : ∃ u, hget n H = some u := by
  unfold hasK at h
  split at h
  · exact ⟨_, ‹_›⟩
  · cases h
theorem bound_of [Sy] {H : Hp} {c : Nat} {e : En} (h : boundB H c e = true) : Bound H c e := by
  simp only [boundB, Bool.and_eq_true] at h
  obtain ⟨h1, h2, h3⟩ := h
  refine ⟨h1, fun n o hn => ?_, fun n hn => ?_⟩
  · have := List.all_eq_true.1 h2 _ (hup_mem hn)
    simp only [Bool.and_eq_true, Bool.or_eq_true] at this
    refine ⟨this.1, ?_⟩
    rcases this.2 with q | q
    · exact .inl q
    · exact .inr ⟨inB_iff.1 q.1, hasK_some q.2⟩
  · have := List.all_eq_true.1 h3 n hn
    simp only [Bool.and_eq_true] at this
    exact ⟨inB_iff.1 this.1, hasK_some this.2⟩
theorem lt_add [Sy] (c k : Nat) : lt (c + k) = fun j => lt c j || inR c (c + k) j := by
  funext j
  simp only [lt, inR]
  cases h1 : Nat.blt j (c + k) with
  | true =>
    have := blt_true h1
    cases h2 : Nat.blt j c with
    | true => rfl
    | false =>
      have := blt_false h2
      simp [this]
  | false =>
    have := blt_false h1
    have : Nat.blt j c = false := by
      cases h2 : Nat.blt j c
      · rfl
      · have := blt_true h2; omega
    simp [this]
/-- What is asked ahead of an entry, and where it leads. -/
theorem entX_pre [Sy] {n : Nat} {T : Tm} {H : Hp} {c : Nat} {e : En} {ops : List Oper} {o : Oper} {G : Nat} (ho : OperOk G n ops o) (hT : okT (lt c) T = true) (hH : HpOk c H) (hb : Bound H c e) :
    Pre (entX ops T o H c e) (stOf n T H c) ∧ (entX ops T o H c e).app (stOf n T H c) = stOf n (putT T o.dst e.v) (hsets e.up (hdels e.del H)) (c + e.k) ∧ okT (lt (c + e.k)) (putT T o.dst e.v) = true ∧ HpOk (c + e.k) (hsets e.up (hdels e.del H)) := by
  have hmono := lt_mono (Nat.le_add_right c e.k)
  have hdm : (entX ops T o H c e).dm (lt c) = lt (c + e.k) := (lt_add c e.k).symm
  refine ⟨⟨?_, ?_, ?_, ?_, ?_, ?_⟩, ?_, ?_, ?_⟩
  · intro t v ht
    simp only [entX, entOf, xsOf] at ht
    cases hq : inB t (needs ops o) with
    | false => rw [hq] at ht; cases ht
    | true =>
      rw [hq] at ht
      injection ht with ht; subst ht
      simp [stOf, ho.ltn t (inB_iff.1 hq)]
  · intro m u hm
    simp only [entX, entOf] at hm
    cases hq : inB m e.rd with
    | false => rw [hq] at hm; cases hm
    | true => rw [hq] at hm; exact hm
  · intro k hk
    have := (inR_iff.1 hk).1
    simp only [stOf, lt]
    cases hq : Nat.blt k c
    · rfl
    · have h1 := blt_true hq
      have h2 : c ≤ k := this
      omega
  · intro m u hm
    simp only [entX, entOf] at hm ⊢
    cases hq : hget m e.up with
    | some w =>
      rcases (hb.up m w hq).2 with q | ⟨q1, q2⟩
      · exact .inr q
      · obtain ⟨x, hx⟩ := q2
        exact .inl ⟨x, by rw [inB_iff.2 q1]; exact hx⟩
    | none =>
      rw [hq] at hm
      simp only at hm
      cases hq2 : inB m e.del with
      | false => rw [hq2] at hm; cases hm
      | true =>
        obtain ⟨q1, x, hx⟩ := hb.del m (inB_iff.1 hq2)
        exact .inl ⟨x, by rw [inB_iff.2 q1]; exact hx⟩
  · show okV ((entX ops T o H c e).dm (lt c)) e.v = true
    rw [hdm]; exact hb.v
  · intro m u hm
    show u.ok ((entX ops T o H c e).dm (lt c)) = true
    rw [hdm]
    simp only [entX, entOf] at hm
    cases hq : hget m e.up with
    | some w =>
      rw [hq] at hm
      injection hm with hm
      injection hm with hm
      subst hm
      exact (hb.up m _ hq).1
    | none =>
      rw [hq] at hm
      simp only at hm
      cases hq2 : inB m e.del <;> rw [hq2] at hm <;> cases hm
  · unfold Ent.app stOf
    simp only
    congr 1
    · exact put_slots o.dst ho.dst
    · funext m
      simp only [entX, entOf, hget_sets, hget_dels]
      cases hget m e.up with
      | some w => rfl
      | none =>
        cases inB m e.del <;> simp
  · cases hd : o.dst with
    | none => exact okT_mono hmono _ hT
    | some d =>
      simp only [putT, okT, Bool.and_eq_true]
      exact ⟨hb.v, okT_mono hmono _ hT⟩
  · intro m u hm
    rw [hget_sets, hget_dels] at hm
    cases hq : hget m e.up with
    | some w =>
      rw [hq] at hm
      injection hm with hm; subst hm
      have := hb.up m _ hq
      refine ⟨?_, this.1⟩
      rcases this.2 with q | ⟨_, x, hx⟩
      · exact (inR_iff.1 q).2
      · have := (hH m x hx).1; omega
    | none =>
      rw [hq] at hm
      simp only at hm
      cases hq2 : inB m e.del with
      | true => rw [hq2] at hm; cases hm
      | false =>
        rw [hq2] at hm
        have := hH m u hm
        exact ⟨by omega, SObj.ok_mono hmono u this.2⟩
end Go.Xe
