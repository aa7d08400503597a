/- A reckoner of closed runs, its first part: values that bear names in the place of blocks; a piece of memory by names; single operations by what they look at; a region in whatever order. No program in it. -/
import Derived.Orders
import Derived.OrdersIn
import Derived.RangeFuncLeaves
import Derived.RangeFuncRecord
import Derived.Below
import Derived.Tactics
import Derived.TacticsIn
import Derived.KernelRfl
import Derived.Deep.LoopGhost
namespace Go.Xe
open Go.RowKit

/-! ## names -/
/-- Numbers that stand for themselves throughout a run: what `.chan (some r)` is read as. -/
class Sy where
  val : Nat → IntKind × Int
def symV [Sy] (r : Nat) : Value := .int (Sy.val r).1 (Sy.val r).2
structure Nm where
  b : Nat
  e : Nat
abbrev Val := Nat → Nm
def mk0 : Nat := 4611686018427387904
def rnA (ν : Val) (a : Addr) : Addr := ⟨(ν a.block).b, a.off, a.spot⟩
def rnCap (ν : Val) (n c : Nat) : Nat := if c < mk0 then c else (ν n).e - (c - mk0)
def rnFn (ν : Val) : Fn → Fn
  | .yield l => .yield (ν l).b
  | .func f => .func f
  | .method s => .method s
  | .methodOf t s => .methodOf t s
  | .via t p f b => .via t p f b
mutual
def rn [Sy] (ν : Val) : Value → Value
  | .bool b => .bool b
  | .int k n => .int k n
  | .float k n => .float k n
  | .complex k x y => .complex k x y
  | .string s => .string s
  | .pointer a => .pointer (a.map (rnA ν))
  | .slice none l c => .slice none l c
  | .slice (some a) l c => .slice (some (rnA ν a)) l (rnCap ν a.block c)
  | .map r => .map (r.map fun k => (ν k).b)
  | .chan none => .chan none
  | .chan (some r) => symV r
  | .func fn x y => .func (rnFn ν fn) (rnR ν x) (rnR ν y)
  | .nilFunc => .nilFunc
  | .iface t v => .iface t (rn ν v)
  | .nilIface => .nilIface
  | .agg cs => .agg (rnR ν cs)
  | .tuple cs => .tuple (rnR ν cs)
def rnR [Sy] (ν : Val) : Array Value → Array Value
  | ⟨l⟩ => ⟨rnL ν l⟩
def rnL [Sy] (ν : Val) : List Value → List Value
  | [] => []
  | v :: r => rn ν v :: rnL ν r
end
theorem rnL_len [Sy] (ν : Val) : ∀ l : List Value, (rnL ν l).length = l.length
  | [] => rfl
  | _ :: r => by simp [rnL, rnL_len ν r]
theorem rnL_get [Sy] (ν : Val) : ∀ (l : List Value) (k : Nat), (rnL ν l)[k]? = (l[k]?).map (rn ν)
  | [], k => by simp [rnL]
  | v :: r, 0 => by simp [rnL]
  | v :: r, k + 1 => by simpa [rnL] using rnL_get ν r k
theorem rnL_eq [Sy] (ν : Val) (l : List Value) : rnL ν l = l.map (rn ν) := by
  induction l with
  | nil => rfl
  | cons v r ih => simp [rnL, ih]
theorem rnL_app [Sy] (ν : Val) (l m : List Value) : rnL ν (l ++ m) = rnL ν l ++ rnL ν m := by simp [rnL_eq]
theorem rnR_toList [Sy] (ν : Val) (a : Array Value) : (rnR ν a).toList = rnL ν a.toList := by cases a; rfl
theorem rnR_eq [Sy] (ν : Val) (a : Array Value) : rnR ν a = a.map (rn ν) := by
  cases a with
  | mk l => simp [rnR, rnL_eq]

def okFn (d : Nat → Bool) : Fn → Bool
  | .yield l => d l
  | _ => true
mutual
def okV (d : Nat → Bool) : Value → Bool
  | .pointer none => true
  | .pointer (some a) => d a.block
  | .slice none _ _ => true
  | .slice (some a) _ _ => d a.block
  | .map none => true
  | .map (some r) => d r
  | .chan none => true
  | .chan (some _) => d 0
  | .func fn x y => okFn d fn && (okR d x && okR d y)
  | .iface _ v => okV d v
  | .agg cs => okR d cs
  | .tuple cs => okR d cs
  | .bool _ => true
  | .int _ _ => true
  | .float _ _ => true
  | .complex _ _ _ => true
  | .string _ => true
  | .nilFunc => true
  | .nilIface => true
def okR (d : Nat → Bool) : Array Value → Bool
  | ⟨l⟩ => okL d l
def okL (d : Nat → Bool) : List Value → Bool
  | [] => true
  | v :: r => okV d v && okL d r
end
mutual
theorem rn_cong [Sy] {d : Nat → Bool} {ν ν' : Val} (h : ∀ k, d k = true → ν k = ν' k) : ∀ v : Value, okV d v = true → rn ν v = rn ν' v
  | .pointer none, _ => rfl
  | .pointer (some a), hk => by simp only [okV] at hk; simp [rn, rnA, h _ hk]
  | .slice none _ _, _ => rfl
  | .slice (some a) _ _, hk => by simp only [okV] at hk; simp [rn, rnA, rnCap, h _ hk]
  | .map none, _ => rfl
  | .map (some r), hk => by simp only [okV] at hk; simp [rn, h _ hk]
  | .chan none, _ => rfl
  | .chan (some _), _ => rfl
  | .func fn x y, hk => by
    simp only [okV, Bool.and_eq_true] at hk
    have e : rnFn ν fn = rnFn ν' fn := by
      cases fn <;> first | rfl | (simp only [rnFn]; rw [h _ hk.1])
    simp only [rn]
    rw [e, rnR_cong h x hk.2.1, rnR_cong h y hk.2.2]
  | .iface t v, hk => by simp only [okV] at hk; simp only [rn]; rw [rn_cong h v hk]
  | .agg cs, hk => by simp only [okV] at hk; simp only [rn]; rw [rnR_cong h cs hk]
  | .tuple cs, hk => by simp only [okV] at hk; simp only [rn]; rw [rnR_cong h cs hk]
  | .bool _, _ => rfl
  | .int _ _, _ => rfl
  | .float _ _, _ => rfl
  | .complex _ _ _, _ => rfl
  | .string _, _ => rfl
  | .nilFunc, _ => rfl
  | .nilIface, _ => rfl
theorem rnR_cong [Sy] {d : Nat → Bool} {ν ν' : Val} (h : ∀ k, d k = true → ν k = ν' k) : ∀ v : Array Value, okR d v = true → rnR ν v = rnR ν' v
  | ⟨l⟩, hk => by simp only [okR] at hk; simp only [rnR]; rw [rnL_cong h l hk]
theorem rnL_cong [Sy] {d : Nat → Bool} {ν ν' : Val} (h : ∀ k, d k = true → ν k = ν' k) : ∀ v : List Value, okL d v = true → rnL ν v = rnL ν' v
  | [], _ => rfl
  | v :: r, hk => by simp only [okL, Bool.and_eq_true] at hk; simp only [rnL]; rw [rn_cong h v hk.1, rnL_cong h r hk.2]
end
mutual
theorem okV_mono {d d' : Nat → Bool} (h : ∀ k, d k = true → d' k = true) : ∀ v : Value, okV d v = true → okV d' v = true
  | .pointer none, _ => rfl
  | .pointer (some a), hk => h _ hk
  | .slice none _ _, _ => rfl
  | .slice (some a) _ _, hk => h _ hk
  | .map none, _ => rfl
  | .map (some r), hk => h _ hk
  | .chan none, _ => rfl
  | .chan (some _), hk => h _ hk
  | .func fn x y, hk => by
    simp only [okV, Bool.and_eq_true] at hk ⊢
    refine ⟨?_, okR_mono h x hk.2.1, okR_mono h y hk.2.2⟩
    cases fn <;> first | rfl | exact h _ hk.1
  | .iface t v, hk => by simp only [okV] at hk ⊢; exact okV_mono h v hk
  | .agg cs, hk => by simp only [okV] at hk ⊢; exact okR_mono h cs hk
  | .tuple cs, hk => by simp only [okV] at hk ⊢; exact okR_mono h cs hk
  | .bool _, _ => rfl
  | .int _ _, _ => rfl
  | .float _ _, _ => rfl
  | .complex _ _ _, _ => rfl
  | .string _, _ => rfl
  | .nilFunc, _ => rfl
  | .nilIface, _ => rfl
theorem okR_mono {d d' : Nat → Bool} (h : ∀ k, d k = true → d' k = true) : ∀ v : Array Value, okR d v = true → okR d' v = true
  | ⟨l⟩, hk => by simp only [okR] at hk ⊢; exact okL_mono h l hk
theorem okL_mono {d d' : Nat → Bool} (h : ∀ k, d k = true → d' k = true) : ∀ v : List Value, okL d v = true → okL d' v = true
  | [], _ => rfl
  | v :: r, hk => by simp only [okL, Bool.and_eq_true] at hk ⊢; exact ⟨okV_mono h v hk.1, okL_mono h r hk.2⟩
end

mutual
theorem rn_id [Sy] {ν : Val} : ∀ v : Value, okV (fun _ => false) v = true → rn ν v = v
  | .pointer none, _ => rfl
  | .pointer (some a), hk => by cases hk
  | .slice none _ _, _ => rfl
  | .slice (some a) _ _, hk => by cases hk
  | .map none, _ => rfl
  | .map (some r), hk => by cases hk
  | .chan none, _ => rfl
  | .chan (some _), hk => by cases hk
  | .func fn x y, hk => by
    simp only [okV, Bool.and_eq_true] at hk
    simp only [rn]
    rw [rnR_id x hk.2.1, rnR_id y hk.2.2]
    cases fn <;> first | rfl | cases hk.1
  | .iface t v, hk => by simp only [okV] at hk; simp only [rn]; rw [rn_id v hk]
  | .agg cs, hk => by simp only [okV] at hk; simp only [rn]; rw [rnR_id cs hk]
  | .tuple cs, hk => by simp only [okV] at hk; simp only [rn]; rw [rnR_id cs hk]
  | .bool _, _ => rfl
  | .int _ _, _ => rfl
  | .float _ _, _ => rfl
  | .complex _ _ _, _ => rfl
  | .string _, _ => rfl
  | .nilFunc, _ => rfl
  | .nilIface, _ => rfl
theorem rnR_id [Sy] {ν : Val} : ∀ v : Array Value, okR (fun _ => false) v = true → rnR ν v = v
  | ⟨l⟩, hk => by simp only [okR] at hk; simp only [rnR]; rw [rnL_id l hk]
theorem rnL_id [Sy] {ν : Val} : ∀ v : List Value, okL (fun _ => false) v = true → rnL ν v = v
  | [], _ => rfl
  | v :: r, hk => by simp only [okL, Bool.and_eq_true] at hk; simp only [rnL]; rw [rn_id v hk.1, rnL_id r hk.2]
end

/-! ## objects -/
abbrev Tm := List (Nat × Value)
def tget (t : Nat) : Tm → Value
  | [] => undef
  | (k, v) :: r => cond (Nat.beq k t) v (tget t r)
def okT (d : Nat → Bool) : Tm → Bool
  | [] => true
  | (_, v) :: r => okV d v && okT d r
theorem okT_get {d : Nat → Bool} {t : Nat} : ∀ {T : Tm}, okT d T = true → okV d (tget t T) = true
  | [], _ => rfl
  | (k, v) :: r, h => by
    simp only [okT, Bool.and_eq_true] at h
    simp only [tget]
    cases Nat.beq k t
    · exact okT_get h.2
    · exact h.1
theorem okT_mono [Sy] {d d' : Nat → Bool} (h : ∀ k, d k = true → d' k = true) : ∀ v : Tm, okT d v = true → okT d' v = true
  | [], _ => rfl
  | (k, v) :: r, hk => by simp only [okT, Bool.and_eq_true] at hk ⊢; exact ⟨okV_mono h v hk.1, okT_mono h r hk.2⟩
/-- An array holds what is known of temporaries. -/
def HasT [Sy] (ν : Val) (n : Nat) (T : Tm) (a : Array Value) : Prop := a.size = n ∧ ∀ t, t < n → a[t]? = some (rn ν (tget t T))
theorem HasT.cong [Sy] {d : Nat → Bool} {ν ν' : Val} (h : ∀ k, d k = true → ν k = ν' k) {n : Nat} {T : Tm} {a : Array Value} (hk : okT d T = true) (hh : HasT ν n T a) : HasT ν' n T a :=
  ⟨hh.1, fun t ht => by rw [hh.2 t ht, rn_cong h _ (okT_get hk)]⟩
inductive SObj where
  | cells (cs : List Value) (t : TypeId)
  | row (cs : List Value) (t : TypeId) (sz : Nat)
  | map (es : List (Value × Value × Nat)) (clock : Nat)
  | sit (s : ByteArray) (pos : Nat)
  | mit (m : Option Nat) (since : Nat) (seen : List Nat) (stepped : Nat)
  | loop (st : LoopState) (pe : Option Code) (n : Nat) (T : Tm) (params : Array Tmp) (assign body : Code) (dfr : Nat)
  | dfr
  | raw (mn : Nat) (t : TypeId)
def rnM [Sy] (ν : Val) (es : List (Value × Value × Nat)) : List MapEntry := es.map fun e => ⟨rn ν e.1, rn ν e.2.1, e.2.2⟩
def SObj.den [Sy] (ν : Val) (n : Nat) (w : World) : SObj → Prop
  | .cells cs t => w.heap[(ν n).b]? = some (.cells (rnL ν cs).toArray t (0, 0))
  | .row cs t sz => ∃ rest : List Value, w.heap[(ν n).b]? = some (.cells (rnL ν cs ++ rest).toArray t (0, 0)) ∧ cs.length + rest.length = (ν n).e * sz
  | .map es c => w.heap[(ν n).b]? = some (.map (rnM ν es).toArray c)
  | .sit s p => w.heap[(ν n).b]? = some (.stringIter s p)
  | .mit m a l b => w.heap[(ν n).b]? = some (.mapIter (m.map fun k => (ν k).b) a l.toArray b)
  | .loop st pe m T ps as bo d => ∃ fn tmps, w.heap[(ν n).b]? = some (.loop { state := st, pending := pe, fn, tmps, params := ps, assign := as, body := bo, defers := (ν d).b }) ∧ HasT ν m T tmps
  | .dfr => w.heap[(ν n).b]? = some (.deferred (some []))
  | .raw mn t => ∃ cs : List Value, w.heap[(ν n).b]? = some (.cells cs.toArray t (0, 0)) ∧ cs.length = (ν n).e ∧ mn ≤ cs.length
def okM (d : Nat → Bool) : List (Value × Value × Nat) → Bool
  | [] => true
  | e :: r => okV d e.1 && (okV d e.2.1 && okM d r)
def SObj.ok (d : Nat → Bool) : SObj → Bool
  | .cells cs _ => okL d cs
  | .row cs _ _ => okL d cs
  | .map es _ => okM d es
  | .sit _ _ => true
  | .mit m _ _ _ => m.all d
  | .loop _ _ _ T _ _ _ k => okT d T && d k
  | .dfr => true
  | .raw _ _ => true
theorem rnM_cong [Sy] {d : Nat → Bool} {ν ν' : Val} (h : ∀ k, d k = true → ν k = ν' k) : ∀ v : List (Value × Value × Nat), okM d v = true → rnM ν v = rnM ν' v
  | [], _ => rfl
  | e :: r, hk => by
    simp only [okM, Bool.and_eq_true] at hk
    have := rnM_cong h r hk.2.2
    simp only [rnM] at this
    simp only [rnM, List.map_cons]
    rw [rn_cong h _ hk.1, rn_cong h _ hk.2.1, this]
theorem okM_mono [Sy] {d d' : Nat → Bool} (h : ∀ k, d k = true → d' k = true) : ∀ v : List (Value × Value × Nat), okM d v = true → okM d' v = true
  | [], _ => rfl
  | e :: r, hk => by simp only [okM, Bool.and_eq_true] at hk ⊢; exact ⟨okV_mono h _ hk.1, okV_mono h _ hk.2.1, okM_mono h r hk.2.2⟩
theorem SObj.ok_mono [Sy] {d d' : Nat → Bool} (h : ∀ k, d k = true → d' k = true) (o : SObj) (hk : o.ok d = true) : o.ok d' = true := by
  cases o <;> simp only [SObj.ok, Bool.and_eq_true] at hk ⊢ <;> first | rfl | exact okL_mono h _ hk | exact okM_mono h _ hk | (rename_i m _ _ _; cases m with | none => rfl | some m => exact h _ hk) | exact ⟨okT_mono h _ hk.1, h _ hk.2⟩
theorem SObj.cong [Sy] {d : Nat → Bool} {ν ν' : Val} (h : ∀ k, d k = true → ν k = ν' k) {n : Nat} {w : World} (o : SObj) (hn : d n = true) (hk : o.ok d = true) : o.den ν n w ↔ o.den ν' n w := by
  have e := h n hn
  cases o <;> simp only [SObj.ok, Bool.and_eq_true] at hk <;> simp only [SObj.den, e]
  · rw [rnL_cong h _ hk]
  · rw [rnL_cong h _ hk]
  · rw [rnM_cong h _ hk]
  · rename_i m _ _ _
    cases m with
    | none => rfl
    | some m => simp only [Option.all_some] at hk; simp only [Option.map_some, h _ hk]
  · rw [h _ hk.2]
    exact ⟨fun ⟨f, t, h1, h2⟩ => ⟨f, t, h1, h2.cong h hk.1⟩, fun ⟨f, t, h1, h2⟩ => ⟨f, t, h1, h2.cong (fun k q => (h k q).symm) hk.1⟩⟩
theorem SObj.loc [Sy] {ν : Val} {n : Nat} {w w' : World} (o : SObj) (h : w'.heap[(ν n).b]? = w.heap[(ν n).b]?) : o.den ν n w' ↔ o.den ν n w := by
  cases o <;> simp only [SObj.den, h]
theorem SObj.lt [Sy] {ν : Val} {n : Nat} {w : World} (o : SObj) (h : o.den ν n w) : (ν n).b < w.heap.size := by
  cases o <;> simp only [SObj.den] at h
  · exact (Array.getElem?_eq_some_iff.1 h).1
  · obtain ⟨_, h, _⟩ := h; exact (Array.getElem?_eq_some_iff.1 h).1
  · exact (Array.getElem?_eq_some_iff.1 h).1
  · exact (Array.getElem?_eq_some_iff.1 h).1
  · exact (Array.getElem?_eq_some_iff.1 h).1
  · obtain ⟨_, _, h, _⟩ := h; exact (Array.getElem?_eq_some_iff.1 h).1
  · exact (Array.getElem?_eq_some_iff.1 h).1
  · obtain ⟨_, h, _⟩ := h; exact (Array.getElem?_eq_some_iff.1 h).1

/-! ## what is known -/
structure St where
  slots : Nat → Option Value
  heap : Nat → Option SObj
  dom : Nat → Bool
structure Cx where
  P : Program
  n : Nat
  G : Nat
  S : Nat → Prop
  ws : World
  defs : List Deferred
structure Ok (C : Cx) (w : World) : Prop where
  grow : Below 0 C.ws w
  same : ∀ k, C.S k → k < C.ws.heap.size → w.heap[k]? = C.ws.heap[k]?
structure Sat [Sy] (C : Cx) (st : St) (ν : Val) (a : Act) (w : World) : Prop where
  size : a.tmps.size = C.n
  defs : a.defers = C.defs
  slot : ∀ t v, st.slots t = some v → a.tmps[t]? = some (rn ν v)
  obj : ∀ n o, st.heap n = some o → o.den ν n w
  inj : ∀ n m o o', st.heap n = some o → st.heap m = some o' → (ν n).b = (ν m).b → n = m
  out : ∀ n o, st.heap n = some o → C.S (ν n).b → C.ws.heap.size ≤ (ν n).b
  glob : ∀ g, g < C.G → ν g = ⟨g, 0⟩
  ok : Ok C w
  domS : ∀ t v, st.slots t = some v → okV st.dom v = true
  domH : ∀ n o, st.heap n = some o → st.dom n = true ∧ o.ok st.dom = true
  domG : ∀ g, g < C.G → st.dom g = true

/-! ## an operation -/
structure Ent where
  dst : Option Nat
  xs : Nat → Option Value
  rd : Nat → Option SObj
  v : Value
  up : Nat → Option (Option SObj)
  lo : Nat
  hi : Nat
def inR (lo hi k : Nat) : Bool := Nat.ble lo k && Nat.blt k hi
theorem inR_iff {lo hi k : Nat} : inR lo hi k = true ↔ lo ≤ k ∧ k < hi := by simp [inR]
structure Post [Sy] (e : Ent) (ν ν' : Val) (w w' : World) : Prop where
  ext : ∀ k, inR e.lo e.hi k = false → ν' k = ν k
  grow : Below 0 w w'
  frame : ∀ k, k < w.heap.size → (∀ m o, e.rd m = some o → k ≠ (ν m).b) → w'.heap[k]? = w.heap[k]?
  keep : ∀ m o, e.rd m = some o → e.up m = none → o.den ν' m w'
  new : ∀ m o, e.up m = some (some o) → o.den ν' m w' ∧ (w.heap.size ≤ (ν' m).b ∨ ∃ k o', e.rd k = some o' ∧ e.up k ≠ none ∧ (ν' m).b = (ν k).b)
  inj : ∀ m k o o', e.up m = some (some o) → e.up k = some (some o') → (ν' m).b = (ν' k).b → m = k
structure Loc [Sy] (C : Cx) (e : Ent) (ν : Val) (a : Act) (w : World) : Prop where
  size : a.tmps.size = C.n
  defs : a.defers = C.defs
  xs : ∀ t v, e.xs t = some v → a.tmps[t]? = some (rn ν v)
  rd : ∀ n o, e.rd n = some o → o.den ν n w
  inj : ∀ n m o o', e.rd n = some o → e.rd m = some o' → (ν n).b = (ν m).b → n = m
  out : ∀ n o, e.rd n = some o → C.S (ν n).b → C.ws.heap.size ≤ (ν n).b
  glob : ∀ g, g < C.G → ν g = ⟨g, 0⟩
  ok : Ok C w
def fence (ro : Option Nat) : Fence := { Fence.wide with round := ro }
def W (ro : Option Nat) (P : Program) (c : Code) (Q : Exit → Act → World → Prop) (a : Act) (w : World) : Prop := c.wpIn (fence ro) 0 P Q a w
theorem fn_any (ro : Option Nat) (f : FuncId) : (fence ro).fn f := trivial
structure Sound [Sy] (ro : Option Nat) (C : Cx) (ops : Array Oper) (o : Oper) (e : Ent) : Prop where
  dst : e.dst = o.dst
  lt : ∀ d, o.dst = some d → d < C.n
  run : ∀ ν a w K Q, Loc C e ν a w → (∀ ν' w', Post e ν ν' w w' → K (a.put o.dst (rn ν' e.v)) w') →
    if Region.wanted o (yielded ops a.tmps) = true then o.wpIn (fence ro) 0 C.P a w K Q else (∀ f, o.about C.P w a.eval = some f → (fence ro).fn f) ∧ K (a.put o.dst undef) w
def Ent.dm (e : Ent) (d : Nat → Bool) : Nat → Bool := fun k => d k || inR e.lo e.hi k
structure Pre (e : Ent) (st : St) : Prop where
  xs : ∀ t v, e.xs t = some v → st.slots t = some v
  rd : ∀ n o, e.rd n = some o → st.heap n = some o
  fresh : ∀ k, inR e.lo e.hi k = true → st.dom k = false
  upd : ∀ n u, e.up n = some u → (∃ o, e.rd n = some o) ∨ inR e.lo e.hi n = true
  nv : okV (e.dm st.dom) e.v = true
  nu : ∀ n o, e.up n = some (some o) → o.ok (e.dm st.dom) = true
def Ent.app (e : Ent) (st : St) : St where
  slots := fun t => match e.dst with
    | some d => cond (Nat.beq d t) (some e.v) (st.slots t)
    | none => st.slots t
  heap := fun n => match e.up n with
    | none => st.heap n
    | some u => u
  dom := e.dm st.dom

theorem beq_ne {d t : Nat} (h : d ≠ t) : Nat.beq d t = false := by
  cases hb : Nat.beq d t
  · rfl
  · exact absurd (Nat.eq_of_beq_eq_true hb) h
theorem app_slots_self {e : Ent} {st : St} {d : Nat} (h : e.dst = some d) : (e.app st).slots d = some e.v := by
  simp [Ent.app, h]
theorem app_slots_ne [Sy] {e : Ent} {st : St} {t : Nat} (h : e.dst ≠ some t) : (e.app st).slots t = st.slots t := by
  cases hd : e.dst with
  | none => simp [Ent.app, hd]
  | some d =>
    have : d ≠ t := fun q => h (by rw [hd, q])
    simp [Ent.app, hd, beq_ne this]
theorem app_heap_none {e : Ent} {st : St} {n : Nat} (h : e.up n = none) : (e.app st).heap n = st.heap n := by simp [Ent.app, h]
theorem app_heap_some {e : Ent} {st : St} {n : Nat} {u : Option SObj} (h : e.up n = some u) : (e.app st).heap n = u := by simp [Ent.app, h]
theorem dm_old {e : Ent} {d : Nat → Bool} {k : Nat} (h : d k = true) : e.dm d k = true := by simp [Ent.dm, h]

theorem step [Sy] {ro : Option Nat} {C : Cx} {ops : Array Oper} {o : Oper} {e : Ent} {st : St} {ν : Val} {a : Act} {w : World} {K : Act → World → Prop} {Q : Exit → Act → World → Prop}
    (h : Sound ro C ops o e) (hp : Pre e st) (hS : Sat C st ν a w) (hK : ∀ ν' a' w', (∀ k, st.dom k = true → ν' k = ν k) → Sat C (e.app st) ν' a' w' → K a' w') :
    if Region.wanted o (yielded ops a.tmps) = true then o.wpIn (fence ro) 0 C.P a w K Q else (∀ f, o.about C.P w a.eval = some f → (fence ro).fn f) ∧ K (a.put o.dst undef) w := by
  refine h.run ν a w K Q ⟨hS.size, hS.defs, fun t v hm => hS.slot _ _ (hp.xs t v hm), fun n o hm => hS.obj _ _ (hp.rd n o hm), fun n m o o' h1 h2 => hS.inj n m o o' (hp.rd _ _ h1) (hp.rd _ _ h2), fun n o h1 => hS.out n o (hp.rd _ _ h1), hS.glob, hS.ok⟩ ?_
  intro ν' w' hq
  have hν : ∀ k, st.dom k = true → ν' k = ν k := fun k hk => hq.ext k (by
    cases hb : inR e.lo e.hi k
    · rfl
    · rw [hp.fresh k hb] at hk; cases hk)
  refine hK ν' _ w' hν ?_
  have hsz : w.heap.size ≤ w'.heap.size := hq.grow.size
  have keep : ∀ n o, st.heap n = some o → e.up n = none → o.den ν' n w' := by
    intro n o hn hu
    by_cases hr : ∃ o', e.rd n = some o'
    · obtain ⟨o', hr⟩ := hr
      obtain rfl : o = o' := by
        have := hp.rd n o' hr
        rw [hn] at this
        injection this
      exact hq.keep n o hr hu
    · have hd := hS.domH n o hn
      refine (SObj.cong (d := st.dom) (fun k hk => hν k hk) o hd.1 hd.2).2 ?_
      refine (SObj.loc o ?_).2 (hS.obj n o hn)
      refine hq.frame _ (SObj.lt o (hS.obj n o hn)) ?_
      intro m o' hm hb
      exact hr ⟨o', by rw [hS.inj n m o o' hn (hp.rd m o' hm) hb]; exact hm⟩
  have heapOf : ∀ n o, (e.app st).heap n = some o → (e.up n = some (some o)) ∨ (st.heap n = some o ∧ e.up n = none) := by
    intro n o hn
    cases hu : e.up n with
    | none => rw [app_heap_none hu] at hn; exact .inr ⟨hn, rfl⟩
    | some u => rw [app_heap_some hu] at hn; exact .inl (by rw [hn])
  have oldb : ∀ n o, st.heap n = some o → (ν' n).b = (ν n).b := fun n o hn => by rw [hν n (hS.domH n o hn).1]
  have apart : ∀ n o m o', e.up n = some (some o) → st.heap m = some o' → e.up m = none → (ν' n).b = (ν' m).b → False := by
    intro n o m o' hu hm hum hb
    rw [oldb m o' hm] at hb
    rcases (hq.new n o hu).2 with hge | ⟨k, o2, hr, hku, hkb⟩
    · have := SObj.lt o' (hS.obj m o' hm)
      omega
    · have : k = m := hS.inj k m o2 o' (hp.rd _ _ hr) hm (by rw [← hkb, hb])
      subst this
      exact hku hum
  refine ⟨?_, ?_, ?_, ?_, ?_, ?_, ?_, ?_, ?_, ?_, ?_⟩
  · cases o.dst <;> simp [Act.put, hS.size]
  · cases o.dst <;> simp [Act.put, hS.defs]
  · intro t s hs
    by_cases hd : e.dst = some t
    · rw [app_slots_self hd] at hs
      obtain rfl : e.v = s := by injection hs
      have hod : o.dst = some t := by rw [← h.dst, hd]
      have hlt : t < a.tmps.size := by rw [hS.size]; exact h.lt t hod
      simp [Act.put, hod, hlt]
    · rw [app_slots_ne hd] at hs
      have := hS.slot t s hs
      rw [rn_cong (d := st.dom) (fun k hk => hν k hk) s (hS.domS t s hs), ← this]
      cases hod : o.dst with
      | none => rfl
      | some d =>
        have : d ≠ t := fun q => hd (by rw [h.dst, hod, q])
        simp [Act.put, Array.getElem?_setIfInBounds_ne this]
  · intro n o hn
    rcases heapOf n o hn with hu | ⟨h1, h2⟩
    · exact (hq.new n o hu).1
    · exact keep n o h1 h2
  · intro n m o o' hn hm hb
    rcases heapOf n o hn with hu | ⟨h1, h2⟩
    · rcases heapOf m o' hm with hu' | ⟨h1', h2'⟩
      · exact hq.inj n m o o' hu hu' hb
      · exact (apart n o m o' hu h1' h2' hb).elim
    · rcases heapOf m o' hm with hu' | ⟨h1', h2'⟩
      · exact (apart m o' n o hu' h1 h2 hb.symm).elim
      · rw [oldb n o h1, oldb m o' h1'] at hb
        exact hS.inj n m o o' h1 h1' hb
  · intro n o hn hSb
    rcases heapOf n o hn with hu | ⟨h1, h2⟩
    · rcases (hq.new n o hu).2 with hge | ⟨k, o2, hr, hku, hkb⟩
      · exact Nat.le_trans hS.ok.grow.size hge
      · rw [hkb] at hSb ⊢
        exact hS.out k o2 (hp.rd _ _ hr) hSb
    · rw [oldb n o h1] at hSb ⊢
      exact hS.out n o h1 hSb
  · intro g hg
    rw [hν g (hS.domG g hg)]
    exact hS.glob g hg
  · refine ⟨hS.ok.grow.trans hq.grow, ?_⟩
    intro k hk hlt
    rw [hq.frame k (Nat.lt_of_lt_of_le hlt hS.ok.grow.size) ?_]
    · exact hS.ok.same k hk hlt
    · intro m o hm hb
      have := hS.out m o (hp.rd _ _ hm) (hb ▸ hk)
      omega
  · intro t s hs
    by_cases hd : e.dst = some t
    · rw [app_slots_self hd] at hs
      obtain rfl : e.v = s := by injection hs
      exact hp.nv
    · rw [app_slots_ne hd] at hs
      exact okV_mono (fun k hk => dm_old hk) s (hS.domS t s hs)
  · intro n o hn
    rcases heapOf n o hn with hu | ⟨h1, _⟩
    · refine ⟨?_, hp.nu n o hu⟩
      rcases hp.upd n _ hu with ⟨o', hr⟩ | hr
      · exact dm_old (hS.domH n o' (hp.rd _ _ hr)).1
      · simp [Ent.app, Ent.dm, hr]
    · have := hS.domH n o h1
      exact ⟨dm_old this.1, SObj.ok_mono (fun k hk => dm_old hk) o this.2⟩
  · intro g hg
    exact dm_old (hS.domG g hg)

/-! ## a region -/
inductive Plan [Sy] (ro : Option Nat) (C : Cx) (ops : Array Oper) : List Oper → St → List Ent → St → Prop
  | nil {st : St} : Plan ro C ops [] st [] st
  | cons {o : Oper} {os : List Oper} {st st' : St} {e : Ent} {es : List Ent} (h : Sound ro C ops o e) (hp : Pre e st) (hr : Plan ro C ops os (e.app st) es st') : Plan ro C ops (o :: os) st (e :: es) st'
theorem dm_app [Sy] {e : Ent} {st : St} {k : Nat} (h : st.dom k = true) : (e.app st).dom k = true := dm_old h
theorem Plan.text [Sy] {ro : Option Nat} {C : Cx} {ops : Array Oper} {Q : Exit → Act → World → Prop} {os : List Oper} {st st' : St} {es : List Ent} (h : Plan ro C ops os st es st') :
    ∀ {ν : Val} {a : Act} {w : World}, Sat C st ν a w → (∀ ν' a w, (∀ k, st.dom k = true → ν' k = ν k) → Sat C st' ν' a w → Q .normal a w) → wpListIn (fence ro) 0 C.P ops Q os a w := by
  induction h with
  | nil => intro ν a w hS hQ; exact hQ ν a w (fun _ _ => rfl) hS
  | cons h hp hr ih =>
    intro ν a w hS hQ
    unfold wpListIn
    exact step (Q := Q) h hp hS (K := wpListIn (fence ro) 0 C.P ops Q _) (fun ν' a' w' hν hS' => ih hS' fun ν2 a w hν2 => hQ ν2 a w fun k hk => (hν2 k (dm_app hk)).trans (hν k hk))

theorem region_text [Sy] {ro : Option Nat} {C : Cx} {Q : Exit → Act → World → Prop} {id : Nat} {l : List Oper} {st st' : St} {es : List Ent} {ν : Val} {a : Act} {w : World}
    (hS : Sat C st ν a w) (h : Plan ro C l.toArray l st es st') (hQ : ∀ ν' a w, (∀ k, st.dom k = true → ν' k = ν k) → Sat C st' ν' a w → Q .normal a w) : W ro C.P (Code.region id l.toArray false) Q a w :=
  wpIn_region_lit (h.text hS hQ)

/-! ### in whatever order -/
inductive Runs (es : List Ent) : List Nat → St → St → Prop
  | nil {st : St} : Runs es [] st st
  | cons {i : Nat} {e : Ent} {L : List Nat} {st st' : St} (he : es[i]? = some e) (hp : Pre e st) (hr : Runs es L (e.app st) st') : Runs es (i :: L) st st'
theorem Plan.runs [Sy] {ro : Option Nat} {C : Cx} {ops : Array Oper} {es0 : List Ent} {os : List Oper} {st st' : St} {es : List Ent} (h : Plan ro C ops os st es st') :
    ∀ i, (∀ j, es0[i + j]? = es[j]?) → Runs es0 (List.range' i os.length) st st' := by
  induction h with
  | nil => intro _ _; exact .nil
  | cons h hp hr ih =>
    intro i hj
    simp only [List.length_cons, List.range'_succ]
    refine .cons (by simpa using hj 0) hp (ih (i + 1) fun j => ?_)
    have := hj (j + 1)
    simpa [Nat.add_assoc, Nat.add_comm 1 j] using this
theorem Plan.sound [Sy] {ro : Option Nat} {C : Cx} {ops : Array Oper} {os : List Oper} {st st' : St} {es : List Ent} (h : Plan ro C ops os st es st') :
    ∀ (j : Nat) (o : Oper) (e : Ent), os[j]? = some o → es[j]? = some e → Sound ro C ops o e := by
  induction h with
  | nil => intro j o e ho; simp at ho
  | cons h hp hr ih =>
    intro j o e ho he
    cases j with
    | zero =>
      simp at ho he
      subst ho; subst he
      exact h
    | succ j => exact ih j o e (by simpa using ho) (by simpa using he)
theorem Plan.len [Sy] {ro : Option Nat} {C : Cx} {ops : Array Oper} {os : List Oper} {st st' : St} {es : List Ent} (h : Plan ro C ops os st es st') : es.length = os.length := by
  induction h with
  | nil => rfl
  | cons _ _ _ ih => simp [ih]

/-- What stands between two entries that may change places: the first one, in the text, is e. -/
structure Half (e f : Ent) : Prop where
  dst : ∀ d, e.dst = some d → f.xs d = none
  up : ∀ n, e.up n ≠ none → f.rd n = none
  nv : okV (fun k => !inR e.lo e.hi k) f.v = true
  nu : ∀ n o, f.up n = some (some o) → o.ok (fun k => !inR e.lo e.hi k) = true
  nk : ∀ n, f.up n ≠ none → inR e.lo e.hi n = false
structure Indep (e f : Ent) : Prop where
  ef : Half e f
  fe : Half f e
  dst : ∀ d, e.dst = some d → f.dst ≠ some d
  up : ∀ n, e.up n ≠ none → f.up n = none
  rng : ∀ k, inR e.lo e.hi k = true → inR f.lo f.hi k = false
mutual
theorem okV_and {d d' : Nat → Bool} : ∀ v : Value, okV d v = true → okV d' v = true → okV (fun k => d k && d' k) v = true
  | .pointer none, _, _ => rfl
  | .pointer (some a), h, h' => by simp only [okV] at h h' ⊢; simp [h, h']
  | .slice none _ _, _, _ => rfl
  | .slice (some a) _ _, h, h' => by simp only [okV] at h h' ⊢; simp [h, h']
  | .map none, _, _ => rfl
  | .map (some r), h, h' => by simp only [okV] at h h' ⊢; simp [h, h']
  | .chan none, _, _ => rfl
  | .chan (some _), h, h' => by simp only [okV] at h h' ⊢; simp [h, h']
  | .func fn x y, hk, hk' => by
    simp only [okV, Bool.and_eq_true] at hk hk' ⊢
    refine ⟨?_, okR_and x hk.2.1 hk'.2.1, okR_and y hk.2.2 hk'.2.2⟩
    cases fn <;> first | rfl | (simp only [okFn] at hk hk' ⊢; simp [hk.1, hk'.1])
  | .iface t v, hk, hk' => by simp only [okV] at hk hk' ⊢; exact okV_and v hk hk'
  | .agg cs, hk, hk' => by simp only [okV] at hk hk' ⊢; exact okR_and cs hk hk'
  | .tuple cs, hk, hk' => by simp only [okV] at hk hk' ⊢; exact okR_and cs hk hk'
  | .bool _, _, _ => rfl
  | .int _ _, _, _ => rfl
  | .float _ _, _, _ => rfl
  | .complex _ _ _, _, _ => rfl
  | .string _, _, _ => rfl
  | .nilFunc, _, _ => rfl
  | .nilIface, _, _ => rfl
theorem okR_and {d d' : Nat → Bool} : ∀ v : Array Value, okR d v = true → okR d' v = true → okR (fun k => d k && d' k) v = true
  | ⟨l⟩, hk, hk' => by simp only [okR] at hk hk' ⊢; exact okL_and l hk hk'
theorem okL_and {d d' : Nat → Bool} : ∀ v : List Value, okL d v = true → okL d' v = true → okL (fun k => d k && d' k) v = true
  | [], _, _ => rfl
  | v :: r, hk, hk' => by simp only [okL, Bool.and_eq_true] at hk hk' ⊢; exact ⟨okV_and v hk.1 hk'.1, okL_and r hk.2 hk'.2⟩
end
theorem okT_and [Sy] {d d' : Nat → Bool} : ∀ v : Tm, okT d v = true → okT d' v = true → okT (fun k => d k && d' k) v = true
  | [], _, _ => rfl
  | (_, v) :: r, hk, hk' => by simp only [okT, Bool.and_eq_true] at hk hk' ⊢; exact ⟨okV_and v hk.1 hk'.1, okT_and r hk.2 hk'.2⟩
theorem okM_and [Sy] {d d' : Nat → Bool} : ∀ v : List (Value × Value × Nat), okM d v = true → okM d' v = true → okM (fun k => d k && d' k) v = true
  | [], _, _ => rfl
  | e :: r, hk, hk' => by simp only [okM, Bool.and_eq_true] at hk hk' ⊢; exact ⟨okV_and _ hk.1 hk'.1, okV_and _ hk.2.1 hk'.2.1, okM_and r hk.2.2 hk'.2.2⟩
theorem SObj.ok_and [Sy] {d d' : Nat → Bool} (o : SObj) (h : o.ok d = true) (h' : o.ok d' = true) : o.ok (fun k => d k && d' k) = true := by
  cases o <;> simp only [SObj.ok, Bool.and_eq_true] at h h' ⊢ <;> first | rfl | exact okL_and _ h h' | (rename_i m _ _ _; cases m with | none => rfl | some m => (simp only [Option.all_some] at h h' ⊢; simp [h, h'])) | exact okM_and _ h h' | exact ⟨okT_and _ h.1 h'.1, h.2, h'.2⟩
theorem pre_app [Sy] {e f : Ent} {st : St} (h : Half e f) (hp : Pre f (e.app st)) : Pre f st := by
  have hd : ∀ k, (f.dm (e.app st).dom k && !inR e.lo e.hi k) = true → f.dm st.dom k = true := by
    intro k hk
    simp only [Ent.dm, Ent.app, Bool.and_eq_true, Bool.or_eq_true, Bool.not_eq_true'] at hk ⊢
    rcases hk with ⟨(h1 | h1) | h1, h2⟩
    · exact .inl h1
    · rw [h1] at h2; cases h2
    · exact .inr h1
  refine ⟨?_, ?_, ?_, ?_, ?_, ?_⟩
  · intro t v ht
    rw [← hp.xs t v ht]
    refine (app_slots_ne fun q => ?_).symm
    rw [h.dst t q] at ht; cases ht
  · intro n o ho
    rw [← hp.rd n o ho]
    refine (app_heap_none ?_).symm
    cases hn : e.up n with
    | none => rfl
    | some u => rw [h.up n (by rw [hn]; simp)] at ho; cases ho
  · intro k hk
    have := hp.fresh k hk
    simp only [Ent.app, Ent.dm, Bool.or_eq_false_iff] at this
    exact this.1
  · exact hp.upd
  · exact okV_mono hd _ (okV_and _ hp.nv h.nv)
  · intro n o ho
    exact SObj.ok_mono hd _ (SObj.ok_and _ (hp.nu n o ho) (h.nu n o ho))
theorem pre_after [Sy] {e f : Ent} {st : St} (h : Half f e) (hr : ∀ k, inR e.lo e.hi k = true → inR f.lo f.hi k = false) (hp : Pre e st) : Pre e (f.app st) := by
  have hd : ∀ k, e.dm st.dom k = true → e.dm (f.app st).dom k = true := by
    intro k hk
    simp only [Ent.dm, Ent.app, Bool.or_eq_true] at hk ⊢
    rcases hk with hk | hk
    · exact .inl (.inl hk)
    · exact .inr hk
  refine ⟨?_, ?_, ?_, hp.upd, okV_mono hd _ hp.nv, fun n o ho => SObj.ok_mono hd _ (hp.nu n o ho)⟩
  · intro t v ht
    rw [← hp.xs t v ht]
    refine app_slots_ne fun q => ?_
    rw [h.dst t q] at ht; cases ht
  · intro n o ho
    rw [← hp.rd n o ho]
    refine app_heap_none ?_
    cases hn : f.up n with
    | none => rfl
    | some u => rw [h.up n (by rw [hn]; simp)] at ho; cases ho
  · intro k hk
    simp [Ent.app, Ent.dm, hp.fresh k hk, hr k hk]
theorem app_comm [Sy] {e f : Ent} {st : St} (hd : ∀ d, e.dst = some d → f.dst ≠ some d) (hu : ∀ n, e.up n ≠ none → f.up n = none) : f.app (e.app st) = e.app (f.app st) := by
  have hs : (f.app (e.app st)).slots = (e.app (f.app st)).slots := by
    funext t
    by_cases h1 : e.dst = some t
    · have h2 : f.dst ≠ some t := hd t h1
      rw [app_slots_ne h2, app_slots_self h1, app_slots_self h1]
    · by_cases h2 : f.dst = some t
      · rw [app_slots_self h2, app_slots_ne h1, app_slots_self h2]
      · rw [app_slots_ne h2, app_slots_ne h1, app_slots_ne h1, app_slots_ne h2]
  have ha : (f.app (e.app st)).heap = (e.app (f.app st)).heap := by
    funext k
    cases he : e.up k with
    | none =>
      cases hf : f.up k with
      | none => rw [app_heap_none hf, app_heap_none he, app_heap_none he, app_heap_none hf]
      | some u => rw [app_heap_some hf, app_heap_none he, app_heap_some hf]
    | some u =>
      have hf := hu k (by rw [he]; simp)
      rw [app_heap_none hf, app_heap_some he, app_heap_some he]
  have hdm : (f.app (e.app st)).dom = (e.app (f.app st)).dom := by
    funext k
    simp only [Ent.app, Ent.dm]
    cases st.dom k <;> cases inR e.lo e.hi k <;> cases inR f.lo f.hi k <;> rfl
  cases h1 : f.app (e.app st)
  cases h2 : e.app (f.app st)
  rw [h1, h2] at hs ha hdm
  simp at hs ha hdm
  subst hs; subst ha; subst hdm
  rfl
theorem Runs.swap [Sy] {es : List Ent} {i j : Nat} {L : List Nat} {st st' : St} {e f : Ent} (he : es[i]? = some e) (hf : es[j]? = some f) (hi : Indep e f)
    (h : Runs es (i :: j :: L) st st') : Runs es (j :: i :: L) st st' := by
  cases h with
  | cons he' hp hr =>
    rw [he] at he'
    cases he'
    cases hr with
    | cons hf' hp' hr =>
      rw [hf] at hf'
      cases hf'
      have hpf := pre_app hi.ef hp'
      refine .cons hf hpf (.cons he (pre_after hi.fe hi.rng hp) ?_)
      rwa [← app_comm hi.dst hi.up]
theorem Runs.first [Sy] {es : List Ent} {j : Nat} {f : Ent} (hf : es[j]? = some f) {B : List Nat} : ∀ (A : List Nat) {st st' : St}, (∀ i, i ∈ A → ∃ e, es[i]? = some e ∧ Indep e f) →
    Runs es (A ++ j :: B) st st' → Runs es (j :: (A ++ B)) st st'
  | [], _, _, _, h => h
  | i :: A, st, st', hA, h => by
    obtain ⟨e, he, hi⟩ := hA i (by simp)
    refine Runs.swap he hf hi ?_
    cases h with
    | cons he' hp hr => exact .cons he' hp (Runs.first hf A (fun k hk => hA k (by simp [hk])) hr)

def edge (o : Oper) (i : Nat) : Bool := o.after.any fun x => Region.binds .any x && Nat.beq x.on i
/-- Every edge goes back; what has no edge between is independent. -/
structure Chk (ops : List Oper) (es : List Ent) : Prop where
  back : ∀ (j : Nat) (o : Oper), ops[j]? = some o → (o.after.all fun x => !Region.binds .any x || Nat.blt x.on j) = true
  ind : ∀ (i j : Nat) (o : Oper) (e f : Ent), i < j → ops[j]? = some o → es[i]? = some e → es[j]? = some f → edge o i = true ∨ Indep e f

theorem Sat.drew [Sy] {C : Cx} {st : St} {ν : Val} {a : Act} {w w' : World} (h : Sat C st ν a w) (hh : w'.heap = w.heap) (h1 : w'.os = w.os) (h2 : w'.tape = w.tape) (h3 : w'.output = w.output) : Sat C st ν a w' := by
  refine ⟨h.size, h.defs, h.slot, ?_, h.inj, h.out, h.glob, ?_, h.domS, h.domH, h.domG⟩
  · intro n o hn
    exact (SObj.loc o (by rw [hh])).2 (h.obj n o hn)
  · refine ⟨h.ok.grow.trans ⟨h1, h2, h3, by rw [hh]; exact Nat.le_refl _, fun k hk => absurd hk (Nat.not_lt_zero _)⟩, ?_⟩
    intro k hk hlt
    rw [hh]
    exact h.ok.same k hk hlt

theorem any_order [Sy] {ro : Option Nat} {C : Cx} {l : List Oper} {Q : Exit → Act → World → Prop} {es : List Ent} {st' : St} {ν0 : Val} {d0 : Nat → Bool} (hc : Chk l es) (hlen : es.length = l.length)
    (hs : ∀ (j : Nat) (o : Oper) (e : Ent), l[j]? = some o → es[j]? = some e → Sound ro C l.toArray o e) (hQ : ∀ ν a w, (∀ k, d0 k = true → ν k = ν0 k) → Sat C st' ν a w → Q .normal a w) :
    ∀ (L : List Nat) (listed : Array Bool) (st : St) (ν : Val) (a : Act) (w : World), (∀ k, d0 k = true → st.dom k = true ∧ ν k = ν0 k) → L.Pairwise (· < ·) → (∀ i, i ∈ L → i < l.length) → (∀ i, i < l.length → (listed.getD i true = false ↔ i ∈ L)) → listed.size = l.length →
      Runs es L st st' → Sat C st ν a w → wpAnyIn (fence ro) 0 C.P .any l.toArray Q L.length listed a w := by
  have hready : ∀ (listed : Array Bool) i, i ∈ Region.ready .any l.toArray listed ↔ (i < l.length ∧ listed.getD i true = false ∧ ∃ o, l[i]? = some o ∧ ∀ x, x ∈ o.after → Region.binds .any x = true → listed.getD x.on false = true) := by
    intro listed i
    simp only [Region.ready, List.mem_filter, List.mem_range, List.size_toArray, Bool.and_eq_true, Bool.not_eq_true']
    refine and_congr_right fun hi => and_congr_right fun _ => ?_
    have hl : l.toArray[i]? = l[i]? := by simp
    rw [hl]
    cases ho : l[i]? with
    | none => simp
    | some o =>
      simp only [Option.map_some, Option.getD_some, Array.all_eq_true', Bool.or_eq_true, Bool.not_eq_true', Option.some.injEq, exists_eq_left']
      constructor
      · intro h x hx hb
        rcases h x hx with h | h
        · rw [hb] at h; cases h
        · exact h
      · intro h x hx
        cases hb : Region.binds .any x
        · exact .inl rfl
        · exact .inr (h x hx hb)
  intro L
  induction hn : L.length generalizing L with
  | zero =>
    intro listed st ν a w hν _ _ hlist _ hr hS
    obtain rfl : L = [] := List.eq_nil_of_length_eq_zero hn
    refine ⟨?_, ?_⟩
    · refine List.eq_nil_iff_forall_not_mem.2 fun i hi => ?_
      obtain ⟨h1, h2, _⟩ := (hready listed i).1 hi
      exact absurd ((hlist i h1).1 h2) (by simp)
    · cases hr
      exact hQ ν a w (fun k hk => (hν k hk).2) hS
  | succ m ih =>
    intro listed st ν a w hν hsort hlt hlist hsz hr hS
    have getE : ∀ i, i < l.length → ∃ e, es[i]? = some e := fun i hi => ⟨es[i]'(by omega), by simp [hlen, hi]⟩
    refine ⟨?_, ?_⟩
    · intro hnil
      exfalso
      cases L with
      | nil => simp at hn
      | cons i L =>
        have hil := hlt i (by simp)
        obtain ⟨o, ho⟩ : ∃ o, l[i]? = some o := ⟨l[i], by simp [hil]⟩
        have hrow := hc.back i o ho
        simp only [Array.all_eq_true', Bool.or_eq_true, Bool.not_eq_true'] at hrow
        have : i ∈ Region.ready .any l.toArray listed := by
          refine (hready listed i).2 ⟨hil, (hlist i hil).2 (by simp), o, ho, ?_⟩
          intro x hx hb
          have hlt' : x.on < i := by
            rcases hrow x hx with h | h
            · rw [hb] at h; cases h
            · simpa using h
          have hxl : x.on < l.length := by omega
          have : x.on ∉ i :: L := by
            intro hm
            rcases List.mem_cons.1 hm with h | h
            · omega
            · have := List.rel_of_pairwise_cons hsort h
              omega
          have h2 : listed.getD x.on true ≠ false := fun q => this ((hlist x.on hxl).1 q)
          have h3 : x.on < listed.size := by omega
          simp only [Array.getD, h3, dite_true, Bool.not_eq_false] at h2 ⊢
          exact h2
        rw [hnil] at this
        cases this
    · intro i hi
      obtain ⟨hil, hun, o, ho, hpre⟩ := (hready listed i).1 hi
      have hiL := (hlist i hil).1 hun
      obtain ⟨A, B, rfl⟩ := List.append_of_mem hiL
      obtain ⟨e, he⟩ := getE i hil
      have hfirst : Runs es (i :: (A ++ B)) st st' := by
        refine Runs.first he A ?_ hr
        intro k hk
        have hki : k < i := (List.pairwise_append.1 hsort).2.2 k hk i (by simp)
        obtain ⟨ek, hek⟩ := getE k (by omega)
        refine ⟨ek, hek, ?_⟩
        rcases hc.ind k i o ek e hki ho hek he with h | h
        · exfalso
          simp only [edge, Array.any_eq_true'] at h
          obtain ⟨x, hx, hb⟩ := h
          simp only [Bool.and_eq_true] at hb
          have hon : x.on = k := Nat.eq_of_beq_eq_true hb.2
          have h1 := hpre x hx hb.1
          have h2 := (hlist k (by omega)).2 (by simp [hk])
          rw [hon] at h1
          have h3 : k < listed.size := by omega
          simp only [Array.getD, h3, dite_true] at h1 h2
          rw [h1] at h2
          cases h2
        · exact h
      cases hfirst with
      | cons he' hp hr' =>
        rw [he] at he'
        cases he'
        have hl : l.toArray[i]? = some o := by simpa using ho
        unfold wpOpIn
        rw [hl]
        exact step (Q := Q) (hs i o e ho he) hp hS (K := wpAnyIn (fence ro) 0 C.P .any l.toArray Q m (listed.setIfInBounds i true)) (fun ν' a' w' hν' hS' => by
          refine ih (A ++ B) (by simp at hn ⊢; omega) _ _ _ a' w' (fun k hk => ⟨dm_app (hν k hk).1, (hν' k (hν k hk).1).trans (hν k hk).2⟩) ?_ ?_ ?_ ?_ hr' hS'
          · have := List.pairwise_append.1 hsort
            refine List.pairwise_append.2 ⟨this.1, (List.pairwise_cons.1 this.2.1).2, fun x hx y hy => this.2.2 x hx y (by simp [hy])⟩
          · intro k hk
            exact hlt k (by simp at hk ⊢; rcases hk with h | h <;> simp [h])
          · intro k hk
            have hk' := hlist k hk
            by_cases q : k = i
            · subst q
              have h1 : ¬ k ∈ A ++ B := by
                have := List.pairwise_append.1 hsort
                intro hm
                rcases List.mem_append.1 hm with h | h
                · have := this.2.2 k h k (by simp); omega
                · have := (List.pairwise_cons.1 this.2.1).1 k h; omega
              have h3 : k < listed.size := by omega
              simp [Array.getD, h3, h1]
            · have h3 : k < listed.size := by omega
              simp only [Array.getD, h3, dite_true] at hk'
              have hne : i ≠ k := fun h => q h.symm
              simp [Array.getD, h3, hne]
              simp [q] at hk'
              exact hk'
          · simpa using hsz)

theorem region_draw [Sy] {ro : Option Nat} {C : Cx} {Q : Exit → Act → World → Prop} {id : Nat} {l : List Oper} {st st' : St} {es : List Ent} {ν : Val} {a : Act} {w : World}
    (hm : C.P.follows .mixedOrders = true) (hS : Sat C st ν a w) (h : Plan ro C l.toArray l st es st') (hc : Chk l es) (hQ : ∀ ν' a w, (∀ k, st.dom k = true → ν' k = ν k) → Sat C st' ν' a w → Q .normal a w) :
    W ro C.P (Code.region id l.toArray true) Q a w := by
  refine wpIn_region_any hm ?_
  have hr := h.runs (es0 := es) 0 (fun j => by simp)
  rw [← List.range_eq_range'] at hr
  have := any_order (ro := ro) (ν0 := ν) (d0 := st.dom) hc h.len h.sound hQ (List.range l.length) (Array.replicate l.length false) st ν a { w with drawn := w.drawn + 1 } (fun k hk => ⟨hk, rfl⟩)
    List.pairwise_lt_range (fun i hi => List.mem_range.1 hi) (fun i hi => by simp [Array.getD, hi]) (by simp) hr (hS.drew rfl rfl rfl rfl)
  simpa using this
end Go.Xe
