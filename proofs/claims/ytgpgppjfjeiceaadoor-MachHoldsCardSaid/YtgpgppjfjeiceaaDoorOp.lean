/- The library of this seat's walks, its second part: the operations. No program in it. -/
import Derived.Test.YtgpgppjfjeiceaaDoorSx
import Derived.Shelf.Abstract
import Derived.Deep.LoopGhost
namespace Go.Sx
open Go.RowKit

/-! ## guards -/
inductive Gd (ops : Array Oper) (o : Oper) : List (Nat × SV) → Bool → Prop
  | no (h : o.guard = none) : Gd ops o [] true
  | yes (j t : Nat) (b : Bool) (h : o.guard = some (j, b)) (ht : (ops[j]?).bind (·.dst) = some t) : Gd ops o [(t, .c (.bool b))] true
  | un (j t : Nat) (b : Bool) (h : o.guard = some (j, b)) (ht : (ops[j]?).bind (·.dst) = some t) : Gd ops o [(t, .c undef)] false
  | off (j t : Nat) (b b' : Bool) (h : o.guard = some (j, b)) (ht : (ops[j]?).bind (·.dst) = some t) (hne : (b' == b) = false) : Gd ops o [(t, .c (.bool b'))] false
theorem Gd.wanted {ops : Array Oper} {o : Oper} {gx : List (Nat × SV)} {r : Bool} (h : Gd ops o gx r) {a : Act} {ν : Val} (hx : ∀ p, p ∈ gx → a.tmps[p.1]? = some (p.2.den ν)) : Region.wanted o (yielded ops a.tmps) = r := by
  cases h with
  | no h => unfold Region.wanted; rw [h]
  | yes j t b h ht =>
    have := hx _ (List.mem_singleton.2 rfl)
    simp only [SV.den] at this
    unfold Region.wanted yielded
    rw [h]
    simp [ht, this]
  | un j t b h ht =>
    have := hx _ (List.mem_singleton.2 rfl)
    simp only [SV.den] at this
    unfold Region.wanted yielded
    rw [h]
    simp only [ht, Option.bind_some, this]
    rfl
  | off j t b b' h ht hne =>
    have := hx _ (List.mem_singleton.2 rfl)
    simp only [SV.den] at this
    unfold Region.wanted yielded
    rw [h]
    simp only [ht, Option.bind_some, this]
    cases b <;> cases b' <;> first | rfl | cases hne

/-! ## operands -/
def look (t : Nat) : List (Nat × SV) → SV
  | [] => .c undef
  | (k, s) :: r => cond (Nat.beq k t) s (look t r)
def ev (ν : Val) (xs : List (Nat × SV)) : Operand → Value
  | .tmp t => (look t xs).den ν
  | .const v => v
  | .global g => .pointer (some ⟨g, 0, none⟩)
  | .func f => .func (.func f) #[] #[]
def hasT (t : Nat) : List (Nat × SV) → Bool
  | [] => false
  | (k, _) :: r => cond (Nat.beq k t) true (hasT t r)
def covL (xs : List (Nat × SV)) : List Operand → Bool
  | [] => true
  | .tmp t :: r => hasT t xs && covL xs r
  | _ :: r => covL xs r
def isSel : Op → Bool
  | .select .. => true
  | _ => false
def isDefer : Op → Bool
  | .defer _ => true
  | _ => false
def covers (o : Oper) (xs : List (Nat × SV)) : Bool := !(isSel o.op) && (!(isDefer o.op) && covL xs o.op.operands.toList)
theorem covers_nd {o : Oper} {xs : List (Nat × SV)} (h : covers o xs = true) : ∀ c, o.op ≠ .defer c := by
  intro c hc
  simp [covers, hc, isDefer] at h
theorem look_mem {t : Nat} {xs : List (Nat × SV)} (h : hasT t xs = true) : (t, look t xs) ∈ xs := by
  induction xs with
  | nil => simp [hasT] at h
  | cons p r ih =>
    obtain ⟨k, s⟩ := p
    simp only [hasT, look] at h ⊢
    cases hb : Nat.beq k t with
    | true =>
      have := Nat.eq_of_beq_eq_true hb
      subst this
      simp
    | false =>
      rw [hb] at h
      simp only [cond_false]
      exact List.mem_cons_of_mem _ (ih h)
theorem eval_ev {a : Act} {ν : Val} {xs : List (Nat × SV)} (hx : ∀ p, p ∈ xs → a.tmps[p.1]? = some (p.2.den ν)) : ∀ (l : List Operand), covL xs l = true → ∀ x ∈ l, a.eval x = ev ν xs x
  | [], _, x, hm => by simp at hm
  | y :: r, h, x, hm => by
    cases y with
    | tmp t =>
      simp only [covL, Bool.and_eq_true] at h
      rcases List.mem_cons.1 hm with rfl | hm
      · have := hx _ (look_mem h.1)
        simp only [Act.eval, ev, Array.getD_eq_getD_getElem?]
        rw [this]; rfl
      · exact eval_ev hx r h.2 x hm
    | const v =>
      rcases List.mem_cons.1 hm with rfl | hm
      · rfl
      · exact eval_ev hx r h x hm
    | global g =>
      rcases List.mem_cons.1 hm with rfl | hm
      · rfl
      · exact eval_ev hx r h x hm
    | func f =>
      rcases List.mem_cons.1 hm with rfl | hm
      · rfl
      · exact eval_ev hx r h x hm
theorem exec_ev {a : Act} {ν : Val} {o : Oper} {xs : List (Nat × SV)} (hx : ∀ p, p ∈ xs → a.tmps[p.1]? = some (p.2.den ν)) (hc : covers o xs = true) : execOp a.eval o = execOp (ev ν xs) o := by
  simp only [covers, Bool.and_eq_true, Bool.not_eq_true'] at hc
  refine execOp_congr o (fun cs b h => ?_) (fun x hm => eval_ev hx _ hc.2.2 x (Array.mem_toList_iff.2 hm))
  rw [h] at hc
  simp [isSel] at hc
def ltB (d : Option Nat) (n : Nat) : Bool :=
  match d with
  | some d => Nat.blt d n
  | none => true
theorem ltB_lt {d : Option Nat} {n : Nat} (h : ltB d n = true) : ∀ k, d = some k → k < n := by
  intro k hk
  subst hk
  simpa [ltB] using h

section
variable {C : Cx} {ops : Array Oper} {i : Nat} {o : Oper} {gx : List (Nat × SV)}

theorem os_skip (hg : Gd ops o gx false) (hl : ltB o.dst C.n = true) : Sound C ops i o ⟨o.dst, gx, [], .c undef, none⟩ := by
  refine ⟨rfl, ltB_lt hl, ?_, fun ν a w hL hw => by rw [hg.wanted hL.xs] at hw; cases hw⟩
  intro ν a w K Q hL hK
  rw [if_neg (by rw [hg.wanted hL.xs]; simp)]
  exact hK ⟨0, 0, undef⟩ w ⟨Below.refl 0 w, fun _ _ _ => rfl, fun _ _ _ h => by cases h⟩

/-- Whatever an operation does, out of its run. -/
theorem os_eff {xs : List (Nat × SV)} {rd : List (Nat × Atom)} {v : SV} {up : Option (Nat × Option Atom × Option Atom)} (hg : Gd ops o gx true) (hl : ltB o.dst C.n = true) (hc : covers o xs = true)
    (h : ∀ ν w, Ok C w → (∀ p, p ∈ rd → p.2.P ν w) → (∀ j A r, up = some (j, some A, r) → A.P ν w) →
      ∃ x w', ((execOp (ev ν xs) o).run C.P w = .ok (.value (v.den (ν.set i x))) w' ∨ ((execOp (ev ν xs) o).run C.P w = .ok .skip w' ∧ o.dst = none)) ∧ Post ⟨o.dst, gx ++ xs, rd, v, up⟩ i ν x w w') :
    Sound C ops i o ⟨o.dst, gx ++ xs, rd, v, up⟩ := by
  refine ⟨rfl, ltB_lt hl, ?_, fun _ _ _ _ _ => covers_nd hc⟩
  intro ν a w K Q hL hK
  rw [if_pos (hg.wanted fun p hp => hL.xs p (List.mem_append_left _ hp))]
  obtain ⟨x, w', hr, hp⟩ := h ν w hL.ok hL.rd hL.old
  have hK' := hK x w' hp
  unfold Oper.wp
  rw [exec_ev (fun p hm => hL.xs p (List.mem_append_right _ hm)) hc]
  rcases hr with hr | ⟨hr, hd⟩
  · rw [hr]
    exact hK'
  · rw [hr]
    show K (a.put o.dst undef) w'
    rw [hd] at hK' ⊢
    exact hK'
theorem post_same {e : Ent} {ν : Val} {x : Nm} (w : World) (h : e.up = none) : Post e i ν x w w :=
  ⟨Below.refl 0 w, fun _ _ _ => rfl, fun _ _ _ q => by rw [h] at q; cases q⟩

/-- An operation that only looks. -/
theorem os_read {xs : List (Nat × SV)} {rd : List (Nat × Atom)} {v : SV} (hg : Gd ops o gx true) (hl : ltB o.dst C.n = true) (hc : covers o xs = true) (hs : ∀ k, k ∈ v.sup → k ≠ i)
    (h : ∀ ν w, Ok C w → (∀ p, p ∈ rd → p.2.P ν w) → (execOp (ev ν xs) o).run C.P w = .ok (.value (v.den ν)) w) : Sound C ops i o ⟨o.dst, gx ++ xs, rd, v, none⟩ := by
  refine os_eff hg hl hc fun ν w hok hr _ => ⟨⟨0, 0, undef⟩, w, .inl ?_, post_same w rfl⟩
  rw [h ν w hok hr, SV.cong v (ν := ν) (ν' := ν.set i ⟨0, 0, undef⟩) (fun k hk => (Val.set_ne ν _ (hs k hk)).symm)]
/-- An operation on values alone. -/
theorem os_pure {xs : List (Nat × SV)} {v : SV} (hg : Gd ops o gx true) (hl : ltB o.dst C.n = true) (hc : covers o xs = true) (hs : inB i v.sup = false)
    (h : ∀ ν w, (execOp (ev ν xs) o).run C.P w = .ok (.value (v.den ν)) w) : Sound C ops i o ⟨o.dst, gx ++ xs, [], v, none⟩ :=
  os_read hg hl hc (fun k hk e => inB_false hs (by rw [← e]; exact hk)) fun ν w _ _ => h ν w
/-- The same value, written otherwise. -/
theorem Sound.as {d : Option Nat} {xs : List (Nat × SV)} {rd : List (Nat × Atom)} {v v' : Value} {up : Option (Nat × Option Atom × Option Atom)} (h : Sound C ops i o ⟨d, xs, rd, .c v, up⟩) (e : v = v') : Sound C ops i o ⟨d, xs, rd, .c v', up⟩ := e ▸ h
end

/-! ## boxes -/
inductive BV where
  | c (b : Nat)
  | nm (i : Nat)
def BV.den (ν : Val) : BV → Nat
  | .c b => b
  | .nm i => (ν i).b
def BV.sup : BV → List Nat
  | .c _ => []
  | .nm i => [i]
def supL : List SV → List Nat
  | [] => []
  | s :: r => s.sup ++ supL r
def denL (ν : Val) : List SV → List Value
  | [] => []
  | s :: r => s.den ν :: denL ν r
theorem denL_cong {ν ν' : Val} : ∀ (l : List SV), (∀ i, i ∈ supL l → ν i = ν' i) → denL ν l = denL ν' l
  | [], _ => rfl
  | s :: r, h => by
    simp only [denL]
    rw [SV.cong s (fun i hi => h i (by simp [supL, hi])), denL_cong r (fun i hi => h i (by simp [supL, hi]))]
theorem denL_length {ν : Val} : ∀ l : List SV, (denL ν l).length = l.length
  | [] => rfl
  | _ :: r => by simp [denL, denL_length r]
theorem denL_get {ν : Val} : ∀ (l : List SV) (k : Nat), (denL ν l)[k]? = (l[k]?).map (SV.den ν)
  | [], k => by simp [denL]
  | s :: r, 0 => rfl
  | s :: r, k + 1 => by simpa [denL] using denL_get r k
/-- A block that holds just these cells. -/
def box (b : BV) (cs : List SV) (t : TypeId) : Atom where
  sup := b.sup ++ supL cs
  own := fun ν k => k = b.den ν
  P := fun ν w => w.heap[b.den ν]? = some (.cells (denL ν cs).toArray t (0, 0))
  cong := by
    intro ν ν' h
    have h1 : b.den ν = b.den ν' := by
      cases b with
      | c b => rfl
      | nm i => simp [BV.den, h i (by simp [BV.sup])]
    have h2 := denL_cong (ν := ν) (ν' := ν') cs (fun i hi => h i (by simp [hi]))
    exact ⟨by rw [h1], by rw [h1, h2]⟩
  loc := by
    intro ν w w' hp _ hf
    rw [hf _ rfl]
    exact hp
  lt := by
    rintro ν w k hp rfl
    exact (Array.getElem?_eq_some_iff.1 hp).1
theorem box_inst (b : BV) (cs : List SV) (t : TypeId) (ν : Val) (n : Nat) (vs : List Value) (hb : b.den ν = n) (hv : denL ν cs = vs) (cs' : List SV) (hs : supL cs' = []) (hd : ∀ ν', denL ν' cs' = vs) :
    (box b cs t).inst ν = box (.c n) cs' t := by
  subst hb
  simp only [Atom.inst, box, BV.den, BV.sup, hs, List.append_nil, Atom.mk.injEq, true_and]
  funext ν' w
  rw [hd ν', hv]

section
variable {C : Cx} {ops : Array Oper} {i : Nat} {o : Oper} {gx : List (Nat × SV)}

theorem run_load_cells {P : Program} {w : World} {b : Nat} {cur : Array Value} {t : TypeId} {fr : Nat × Nat} (h : w.heap[b]? = some (.cells cur t fr)) : ∀ (n off k : Nat) (acc : Array Value), off + k + n ≤ cur.size →
    (loadCellsFrom ⟨b, off, none⟩ k n acc).run P w = .ok (acc ++ (cur.toList.drop (off + k)).take n) w
  | 0, off, k, acc, _ => by simp [loadCellsFrom]
  | n + 1, off, k, acc, hn => by
    have hlt : off + k < cur.size := by omega
    have hadd : (⟨b, off, none⟩ : Addr).add k = ⟨b, off + k, none⟩ := by unfold Addr.add; split <;> simp_all
    have hc : w.cell? ⟨b, off + k, none⟩ = some cur[off + k] := by simp [World.cell?, h, hlt]
    simp only [loadCellsFrom, load, hadd, Sem.run_bind]
    have h1 : Sem.run P (Sem.load Mode.plain ⟨b, off + k, none⟩ Sem.pure) w = .ok cur[off + k] w := by simp only [Sem.run, hc]
    rw [h1]
    simp only [Result.andThen_ok]
    rw [run_load_cells h n off (k + 1) _ (by omega)]
    congr 1
    apply Array.ext'
    have : cur.toList.drop (off + k) = cur[off + k] :: cur.toList.drop (off + k + 1) := by
      rw [List.drop_eq_getElem_cons (by simpa using hlt)]
      simp
    simp [this, Nat.add_assoc]
theorem run_loadVar1 {P : Program} {w : World} {b off : Nat} {cur : Array Value} {t ty : TypeId} {fr : Nat × Nat} {v : Value} (ht : ∀ w, (isAgg t).run P w = .ok false w) (h : w.heap[b]? = some (.cells cur ty fr)) (hv : cur[off]? = some v) :
    (loadVar t ⟨b, off, none⟩).run P w = .ok v w := by
  have hc : w.cell? ⟨b, off, none⟩ = some v := by simp [World.cell?, h, hv]
  simp only [loadVar, Sem.run_bind, ht, Result.andThen_ok, load]
  simp [Sem.run, hc]
theorem run_loadVarN {P : Program} {w : World} {b off n : Nat} {cur : Array Value} {t ty : TypeId} {fr : Nat × Nat} (ht : ∀ w, (isAgg t).run P w = .ok true w) (hn : ∀ w, (sizeOf t).run P w = .ok n w) (h : w.heap[b]? = some (.cells cur ty fr)) (hb : off + n ≤ cur.size) :
    (loadVar t ⟨b, off, none⟩).run P w = .ok (.agg ((cur.toList.drop off).take n).toArray) w := by
  simp only [loadVar, Sem.run_bind, ht, Result.andThen_ok, if_true, hn, loadCells]
  rw [run_load_cells h n off 0 #[] (by omega)]
  simp

/-- A cell of a box is read. -/
theorem os_load {p j b off ty : Nat} {t : TypeId} {cs : List SV} {v : SV} (hg : Gd ops o gx true) (hl : ltB o.dst C.n = true) (ho : o.op = .load t (.tmp p)) (ht : ∀ w, (isAgg t).run C.P w = .ok false w) (hv : cs[off]? = some v) (hs : inB i v.sup = false) :
    Sound C ops i o ⟨o.dst, gx ++ [(p, .c (.pointer (some ⟨b, off, none⟩)))], [(j, box (.c b) cs ty)], v, none⟩ := by
  refine os_read hg hl (by simp [covers, ho, isSel, isDefer, Op.operands, covL, hasT]) (fun k hk e => inB_false hs (by rw [← e]; exact hk)) fun ν w _ hr => ?_
  have hb : w.heap[b]? = some (.cells (denL ν cs).toArray ty (0, 0)) := hr _ (List.mem_singleton.2 rfl)
  have := run_loadVar1 (P := C.P) (off := off) (v := v.den ν) ht hb (by simp [denL_get, hv])
  simp [execOp, ho, ev, look, SV.den, Instr.loadAt, Instr.sureAddr, this]
/-- A struct, or an array, in a box is read. -/
theorem os_loadN {p j b off ty n : Nat} {t : TypeId} {cs : List SV} {v : Value} (hg : Gd ops o gx true) (hl : ltB o.dst C.n = true) (ho : o.op = .load t (.tmp p)) (ht : ∀ w, (isAgg t).run C.P w = .ok true w) (hn : ∀ w, (sizeOf t).run C.P w = .ok n w)
    (hb : off + n ≤ cs.length) (hv : ∀ ν, ((denL ν cs).drop off).take n = v.cells.toList) (hva : v = .agg v.cells) :
    Sound C ops i o ⟨o.dst, gx ++ [(p, .c (.pointer (some ⟨b, off, none⟩)))], [(j, box (.c b) cs ty)], .c v, none⟩ := by
  refine os_read hg hl (by simp [covers, ho, isSel, isDefer, Op.operands, covL, hasT]) (fun k hk => by simp [SV.sup] at hk) fun ν w _ hr => ?_
  have hbb : w.heap[b]? = some (.cells (denL ν cs).toArray ty (0, 0)) := hr _ (List.mem_singleton.2 rfl)
  have := run_loadVarN (P := C.P) (off := off) ht hn hbb (by simpa [denL_length] using hb)
  simp only [hv ν] at this
  rw [show v.cells.toList.toArray = v.cells from rfl, ← hva] at this
  simp [execOp, ho, ev, look, SV.den, Instr.loadAt, Instr.sureAddr, this]

/-- A new block. -/
theorem post_new {e : Ent} {ν : Val} {w : World} {cs : List SV} {t : TypeId} {j : Nat} (he : e.up = some (j, none, some (box (.nm i) cs t))) (hs : inB i (supL cs) = false) :
    Post e i ν ⟨w.heap.size, 0, undef⟩ w (w.alloc (.cells (denL ν cs).toArray t)) := by
  refine ⟨(Below.refl 0 w).alloc (Nat.zero_le _) _, fun k hk _ => Below.heap_alloc w _ k hk, ?_⟩
  intro j' r A' h
  rw [he] at h
  cases h
  have hd : denL (ν.set i ⟨w.heap.size, 0, undef⟩) cs = denL ν cs := denL_cong cs fun k hk => Val.set_ne ν _ (fun q => inB_false hs (by rw [← q]; exact hk))
  refine ⟨?_, fun k hk => .inl ?_⟩
  · show (w.alloc _).heap[((ν.set i _) i).b]? = _
    rw [Val.set_self, hd]
    exact heap_alloc_new w _
  · have : k = ((ν.set i (⟨w.heap.size, 0, undef⟩ : Nm)) i).b := hk
    rw [Val.set_self] at this
    exact Nat.le_of_eq this.symm
def ptrOf : Nm → Value := fun m => .pointer (some ⟨m.b, 0, none⟩)
/-- 'box': a variable of a parameter's or a local's own. -/
theorem os_box (k : Nat) {x : Operand} {t : TypeId} {xs : List (Nat × SV)} {cs : List SV} (hg : Gd ops o gx true) (hl : ltB o.dst C.n = true) (ho : o.op = .box t x) (hc : covL xs [x] = true) (hv : ∀ ν, (ev ν xs x).cells.toList = denL ν cs) (hs : inB i (supL cs) = false) :
    Sound C ops i o ⟨o.dst, gx ++ xs, [], .f i ptrOf, some (k, none, some (box (.nm i) cs t))⟩ := by
  refine os_eff hg hl (by simpa [covers, ho, isSel, isDefer, Op.operands] using hc) fun ν w _ _ _ => ⟨⟨w.heap.size, 0, undef⟩, _, .inl ?_, post_new rfl hs⟩
  have : (ev ν xs x).cells = (denL ν cs).toArray := by rw [← hv ν]
  simp [execOp, ho, Instr.box, newVar, newRow, newObj, Sem.run, SV.den, ptrOf, Val.set_self, this]
/-- 'alloc': a variable that holds its zero value. -/
theorem os_alloc (k : Nat) {t : TypeId} {z : Value} {cs : List SV} (hg : Gd ops o gx true) (hl : ltB o.dst C.n = true) (ho : o.op = .alloc t) (hz : ∀ w, (zeroValue t).run C.P w = .ok z w) (hv : ∀ ν, z.cells.toList = denL ν cs) (hs : inB i (supL cs) = false) :
    Sound C ops i o ⟨o.dst, gx ++ [], [], .f i ptrOf, some (k, none, some (box (.nm i) cs t))⟩ := by
  refine os_eff hg hl (by simp [covers, ho, isSel, isDefer, Op.operands, covL]) fun ν w _ _ _ => ⟨⟨w.heap.size, 0, undef⟩, _, .inl ?_, post_new rfl hs⟩
  have : z.cells = (denL ν cs).toArray := by rw [← hv ν]
  simp [execOp, ho, Instr.alloc, hz, newVar, newRow, newObj, Sem.run, SV.den, ptrOf, Val.set_self, this]
def sliceOf (n : Nat) : Nm → Value := fun m => .slice (some ⟨m.b, 0, none⟩) n n
/-- '[]T{..}': each element of one cell. -/
theorem os_buildSlice (k : Nat) {t el n : Nat} {parts : Array (Nat × Operand)} {xs : List (Nat × SV)} {cs : List SV} (hg : Gd ops o gx true) (hl : ltB o.dst C.n = true) (ho : o.op = .buildSlice t n parts) (hc : covers o xs = true)
    (hr : ∀ ν w, (Instr.buildSlice t n (parts.map fun (i, x) => (i, ev ν xs x))).run C.P w = .ok (.slice (some ⟨w.heap.size, 0, none⟩) n n) (w.alloc (.cells (denL ν cs).toArray el))) (hs : inB i (supL cs) = false) :
    Sound C ops i o ⟨o.dst, gx ++ xs, [], .f i (sliceOf n), some (k, none, some (box (.nm i) cs el))⟩ := by
  refine os_eff hg hl hc fun ν w _ _ _ => ⟨⟨w.heap.size, 0, undef⟩, _, .inl ?_, post_new rfl hs⟩
  simp [execOp, ho, hr, SV.den, sliceOf, Val.set_self]

/-! ## stores -/
theorem run_store_cells {P : Program} {b : Nat} {t : TypeId} : ∀ (vs : List Value) (k : Nat) (off : Nat) (cur : Array Value) (w : World), w.heap[b]? = some (.cells cur t (0, 0)) → off + k + vs.length ≤ cur.size → (∀ v, v ∈ vs → v.oneCell' = true) →
    ∃ w', (storeCells ⟨b, off, none⟩ vs k).run P w = .ok () w' ∧ w'.heap[b]? = some (.cells (cur.toList.take (off + k) ++ vs ++ cur.toList.drop (off + k + vs.length)).toArray t (0, 0)) ∧ Below 0 w w' ∧ ∀ j, j ≠ b → w'.heap[j]? = w.heap[j]?
  | [], k, off, cur, w, h, _, _ => ⟨w, by simp [storeCells], by simpa using h, Below.refl 0 w, fun _ _ => rfl⟩
  | v :: vs, k, off, cur, w, h, hn, h1 => by
    have hlt : off + k < cur.size := by simp at hn; omega
    have hadd : (⟨b, off, none⟩ : Addr).add k = ⟨b, off + k, none⟩ := by unfold Addr.add; split <;> simp_all
    have hc : w.cell? ⟨b, off + k, none⟩ = some cur[off + k] := by simp [World.cell?, h, hlt]
    have hf : w.frozen? ⟨b, off + k, none⟩ = false := by simp [World.frozen?, h]
    have hst : (store ⟨b, off + k, none⟩ v).run P w = .ok () (w.setCell ⟨b, off + k, none⟩ v) := by
      have := h1 v (by simp)
      cases v <;> first | (simp [Value.oneCell'] at this; done) | simp [store, Sem.run, hc, hf]
    have hb : b < w.heap.size := (Array.getElem?_eq_some_iff.1 h).1
    have hh : (w.setCell ⟨b, off + k, none⟩ v).heap[b]? = some (.cells (cur.setIfInBounds (off + k) v) t (0, 0)) := by
      have hgb : w.heap[b] = .cells cur t (0, 0) := (Array.getElem?_eq_some_iff.1 h).2
      simp [World.setCell, Array.getElem?_modify, h]
    obtain ⟨w', hr, hw, hB, ho⟩ := run_store_cells vs (k + 1) off (cur.setIfInBounds (off + k) v) (w.setCell ⟨b, off + k, none⟩ v) hh (by simp at hn ⊢; omega) (fun u hu => h1 u (by simp [hu]))
    refine ⟨w', ?_, ?_, ?_, ?_⟩
    · simp only [storeCells, hadd, Sem.run_bind, hst, Result.andThen_ok]
      exact hr
    · rw [hw]
      congr 2
      apply Array.ext'
      have e1 : (cur.setIfInBounds (off + k) v).toList = cur.toList.set (off + k) v := by simp
      rw [e1, ← Nat.add_assoc]
      simp only [List.length_cons]
      rw [show off + k + (vs.length + 1) = off + k + 1 + vs.length from by omega]
      rw [List.drop_set_of_lt (by omega)]
      congr 1
      rw [List.take_set]
      have hl : off + k < cur.toList.length := by simpa using hlt
      rw [List.set_eq_take_append_cons_drop, if_pos (by simp; omega)]
      simp [List.take_take, Nat.min_eq_left (show off + k ≤ off + k + 1 from by omega)]
    · exact ((Below.refl 0 w).setCell (p := ⟨b, off + k, none⟩) (Nat.zero_le _) v).trans hB
    · intro j hj
      rw [ho j hj, Below.heap_setCell _ _ _ _ hj]
theorem ext_den {ν : Val} (l l' : List SV) (h : denL ν l = denL ν l') : (denL ν l).toArray = (denL ν l').toArray := by rw [h]
/-- Cells of a box are written. -/
theorem os_store {p j b off ty n : Nat} {t : TypeId} {y : Operand} {xs : List (Nat × SV)} {cs cs' : List SV} (hg : Gd ops o gx true) (hl : ltB o.dst C.n = true) (hd : o.dst = none) (ho : o.op = .store t (.tmp p) y) (hcv : covL ((p, .c (.pointer (some ⟨b, off, none⟩))) :: xs) [y] = true)
    (hn : ∀ w, (sizeOf t).run C.P w = .ok n w) (hv : ∀ ν, (ev ν ((p, .c (.pointer (some ⟨b, off, none⟩))) :: xs) y).cells.toList.length = n) (h1 : ∀ ν, (ev ν ((p, .c (.pointer (some ⟨b, off, none⟩))) :: xs) y).cells.toList.all Value.oneCell' = true)
    (hb : off + n ≤ cs.length) (hcs : ∀ ν, denL ν cs' = (denL ν cs).take off ++ (ev ν ((p, .c (.pointer (some ⟨b, off, none⟩))) :: xs) y).cells.toList ++ (denL ν cs).drop (off + n)) (hs : inB i (supL cs') = false) :
    Sound C ops i o ⟨o.dst, gx ++ ((p, .c (.pointer (some ⟨b, off, none⟩))) :: xs), [], .c undef, some (j, some (box (.c b) cs ty), some (box (.c b) cs' ty))⟩ := by
  refine os_eff hg hl ?_ ?_
  · simp only [covers, ho, isSel, isDefer, Op.operands, covL, hasT, Nat.beq_refl]
    simpa [covL] using hcv
  · intro ν w _ _ hold
    have hbb : w.heap[b]? = some (.cells (denL ν cs).toArray ty (0, 0)) := hold _ _ _ rfl
    obtain ⟨w', hr, hw, hB, hoth⟩ := run_store_cells (P := C.P) (ev ν ((p, .c (.pointer (some ⟨b, off, none⟩))) :: xs) y).cells.toList 0 off (denL ν cs).toArray w hbb (by rw [hv ν]; simpa [denL_length] using hb) (List.all_eq_true.1 (h1 ν))
    refine ⟨⟨0, 0, undef⟩, w', .inr ⟨?_, hd⟩, ⟨hB, ?_, ?_⟩⟩
    · have hsz : (ev ν ((p, .c (.pointer (some ⟨b, off, none⟩))) :: xs) y).cells.size = n := by rw [← hv ν]; simp
      have e0 : ev ν ((p, .c (.pointer (some ⟨b, off, none⟩))) :: xs) (.tmp p) = .pointer (some ⟨b, off, none⟩) := by simp [ev, look, SV.den]
      simp only [execOp, ho, e0, Instr.storeAt, Instr.sureAddr, storeVar, Sem.run_bind, Sem.run_pure, Result.andThen_ok, hn, hsz]
      simp [hr]
    · intro k hk hne
      refine hoth k fun q => hne _ _ _ rfl ?_
      exact q
    · intro j' r A' h
      cases h
      have hd' : denL (ν.set i ⟨0, 0, undef⟩) cs' = denL ν cs' := denL_cong cs' fun k hk => Val.set_ne ν _ (fun q => inB_false hs (by rw [← q]; exact hk))
      refine ⟨?_, fun k hk => .inr ⟨_, rfl, hk⟩⟩
      show w'.heap[b]? = _
      rw [hw, hd', hcs ν]
      simp [hv ν]

/-! ### blocks that the region itself has made -/
theorem os_loadb {p j off ty : Nat} {bv : BV} {sa : SV} {t : TypeId} {cs : List SV} {v : SV} (hg : Gd ops o gx true) (hl : ltB o.dst C.n = true) (ho : o.op = .load t (.tmp p)) (hsa : ∀ ν, sa.den ν = .pointer (some ⟨bv.den ν, off, none⟩)) (ht : ∀ w, (isAgg t).run C.P w = .ok false w) (hv : cs[off]? = some v) (hs : inB i v.sup = false) :
    Sound C ops i o ⟨o.dst, gx ++ [(p, sa)], [(j, box bv cs ty)], v, none⟩ := by
  refine os_read hg hl (by simp [covers, ho, isSel, isDefer, Op.operands, covL, hasT]) (fun k hk e => inB_false hs (by rw [← e]; exact hk)) fun ν w _ hr => ?_
  have hb : w.heap[bv.den ν]? = some (.cells (denL ν cs).toArray ty (0, 0)) := hr _ (List.mem_singleton.2 rfl)
  have := run_loadVar1 (P := C.P) (off := off) (v := v.den ν) ht hb (by simp [denL_get, hv])
  simp [execOp, ho, ev, look, hsa, Instr.loadAt, Instr.sureAddr, this]
theorem os_storeb {p j off ty n : Nat} {bv : BV} {sa : SV} {t : TypeId} {y : Operand} {xs : List (Nat × SV)} {cs cs' : List SV} (hg : Gd ops o gx true) (hl : ltB o.dst C.n = true) (hd : o.dst = none) (ho : o.op = .store t (.tmp p) y) (hsa : ∀ ν, sa.den ν = .pointer (some ⟨bv.den ν, off, none⟩)) (hcv : covL ((p, sa) :: xs) [y] = true)
    (hn : ∀ w, (sizeOf t).run C.P w = .ok n w) (hv : ∀ ν, (ev ν ((p, sa) :: xs) y).cells.toList.length = n) (h1 : ∀ ν, (ev ν ((p, sa) :: xs) y).cells.toList.all Value.oneCell' = true)
    (hb : off + n ≤ cs.length) (hcs : ∀ ν, denL ν cs' = (denL ν cs).take off ++ (ev ν ((p, sa) :: xs) y).cells.toList ++ (denL ν cs).drop (off + n)) (hs : inB i (supL cs') = false) (hbs : inB i bv.sup = false) :
    Sound C ops i o ⟨o.dst, gx ++ ((p, sa) :: xs), [], .c undef, some (j, some (box bv cs ty), some (box bv cs' ty))⟩ := by
  refine os_eff hg hl ?_ ?_
  · simp only [covers, ho, isSel, isDefer, Op.operands, covL, hasT, Nat.beq_refl]
    simpa [covL] using hcv
  · intro ν w _ _ hold
    have hbb : w.heap[bv.den ν]? = some (.cells (denL ν cs).toArray ty (0, 0)) := hold _ _ _ rfl
    obtain ⟨w', hr, hw, hB, hoth⟩ := run_store_cells (P := C.P) (ev ν ((p, sa) :: xs) y).cells.toList 0 off (denL ν cs).toArray w hbb (by rw [hv ν]; simpa [denL_length] using hb) (List.all_eq_true.1 (h1 ν))
    refine ⟨⟨0, 0, undef⟩, w', .inr ⟨?_, hd⟩, ⟨hB, ?_, ?_⟩⟩
    · have hsz : (ev ν ((p, sa) :: xs) y).cells.size = n := by rw [← hv ν]; simp
      have e0 : ev ν ((p, sa) :: xs) (.tmp p) = .pointer (some ⟨bv.den ν, off, none⟩) := by simp [ev, look, hsa]
      simp only [execOp, ho, e0, Instr.storeAt, Instr.sureAddr, storeVar, Sem.run_bind, Sem.run_pure, Result.andThen_ok, hn, hsz]
      simp [hr]
    · intro k hk hne
      refine hoth k fun q => hne _ _ _ rfl ?_
      exact q
    · intro j' r A' h
      cases h
      have hd' : denL (ν.set i ⟨0, 0, undef⟩) cs' = denL ν cs' := denL_cong cs' fun k hk => Val.set_ne ν _ (fun q => inB_false hs (by rw [← q]; exact hk))
      have hbd : bv.den (ν.set i ⟨0, 0, undef⟩) = bv.den ν := by
        cases bv with
        | c b => rfl
        | nm m => simp only [BV.den]; rw [Val.set_ne ν _ (fun q => inB_false hbs (by simp [BV.sup, q]))]
      refine ⟨?_, fun k hk => .inr ⟨_, rfl, ?_⟩⟩
      · show w'.heap[bv.den (ν.set i _)]? = _
        rw [hbd, hw, hd', hcs ν]
        simp [hv ν]
      · show k = bv.den ν
        rw [← hbd]; exact hk

/-! ### numbers -/
theorem run_bin {P : Program} {ρ : Operand → Value} {op : BinOp} {t yt : TypeId} {x y : Operand} {r : Value} (ho : o.op = .binOp op t x y yt) (h1 : op ≠ .eql) (h2 : op ≠ .neq) (h : ∀ w, (binOp op t (ρ x) (ρ y)).run P w = .ok r w) (w : World) : (execOp ρ o).run P w = .ok (.value r) w := by
  have hg : ∀ w, (eqGuard op t x y (ρ x) (ρ y)).run P w = .ok () w := by
    intro w
    cases op <;> first | rfl | exact absurd rfl h1 | exact absurd rfl h2
  simp [execOp, ho, hg, h]
def shlF (k : IntKind) (x n : Int) : Int := k.wrap (x * 2 ^ (min n.toNat k.bits))
def shrF (k : IntKind) (x n : Int) : Int := x.fdiv (2 ^ (min n.toNat k.bits))
theorem run_shl {P : Program} {t : TypeId} {k yk : IntKind} {x y : Int} (h : 0 ≤ y) (w : World) : (binOp .shl t (.int k x) (.int yk y)).run P w = .ok (.int k (shlF k x y)) w := by
  simp only [binOp, Op.shift]
  rw [if_neg (by omega)]
  rfl
theorem run_shr {P : Program} {t : TypeId} {k yk : IntKind} {x y : Int} (h : 0 ≤ y) (w : World) : (binOp .shr t (.int k x) (.int yk y)).run P w = .ok (.int k (shrF k x y)) w := by
  simp only [binOp, Op.shift]
  rw [if_neg (by omega)]
  rfl
theorem run_quo {P : Program} {t : TypeId} {k : IntKind} {x y : Int} (h : y ≠ 0) (w : World) : (binOp .quo t (.int k x) (.int k y)).run P w = .ok (.int k (k.wrap (x.tdiv y))) w := by
  simp only [binOp, Op.intDiv, ne_eq, not_true, if_false]
  rw [if_neg h]
  rfl
theorem run_rem {P : Program} {t : TypeId} {k : IntKind} {x y : Int} (h : y ≠ 0) (w : World) : (binOp .rem t (.int k x) (.int k y)).run P w = .ok (.int k (x.tmod y)) w := by
  simp only [binOp, Op.intDiv, ne_eq, not_true, if_false]
  rw [if_neg h]
  rfl
def bAnd (k : IntKind) (x y : Int) : Int := k.wrap ((BitVec.ofInt k.bits x &&& BitVec.ofInt k.bits y).toNat : Int)
def bOr (k : IntKind) (x y : Int) : Int := k.wrap ((BitVec.ofInt k.bits x ||| BitVec.ofInt k.bits y).toNat : Int)
def bXor (k : IntKind) (x y : Int) : Int := k.wrap ((BitVec.ofInt k.bits x ^^^ BitVec.ofInt k.bits y).toNat : Int)
def bAndNot (k : IntKind) (x y : Int) : Int := k.wrap ((BitVec.ofInt k.bits x &&& ~~~ BitVec.ofInt k.bits y).toNat : Int)
end
end Go.Sx
