/- The library of this seat's walks, its fourth part: how the program's data lie in memory. No program in it. -/
import Derived.Test.YtgpgppjfjeiceaaDoorFn
namespace Go.Sx
open Go.RowKit

theorem add_lit (b off n : Nat) : (⟨b, off, none⟩ : Addr).add n = ⟨b, off + n, none⟩ := by unfold Addr.add; split <;> simp_all
def I64 (x : Int) : Prop := -9223372036854775808 ≤ x ∧ x ≤ 9223372036854775807
/-- What stands in the blocks of w stands in w'. -/
def Same (w w' : World) : Prop := ∀ b, b < w.heap.size → w'.heap[b]? = w.heap[b]?
theorem Same.of_below {w w' : World} (h : Below w.heap.size w w') : Same w w' := fun b hb => h.block b hb
theorem Ok.same {P : Program} {n : Nat} {w0 w : World} {L : List ((Nat → Prop) × World)} {ds : List Deferred} (h : Ok ⟨P, n, w0, L, ds⟩ w) (hin : ((fun k => k < w0.heap.size, w0) : (Nat → Prop) × World) ∈ L) : Same w0 w :=
  fun b hb => (h.snap _ hin).same b hb hb
theorem Rws.to {w w' : World} {A : Option Addr} {sz : Nat} {raws : List (List Value)} (h : Rws w A sz raws) (k : Same w w') : Rws w' A sz raws := h.mono k
theorem Rws.loadN {P : Program} {w : World} {b off sz : Nat} {raws : List (List Value)} (h : Rws w (some ⟨b, off, none⟩) sz raws) {i : Nat} {r : List Value} (hr : raws[i]? = some r) {t : TypeId} (ht : ∀ w, (isAgg t).run P w = .ok true w) (hn : ∀ w, (sizeOf t).run P w = .ok sz w) :
    (loadVar t ⟨b, off + i * sz, none⟩).run P w = .ok (.agg r.toArray) w := by
  obtain ⟨b', off', cur, ty, fr, hA, hb, hc⟩ := h.cell i r hr
  cases hA
  have hl := h.len r (List.mem_of_getElem? hr)
  rcases Nat.eq_zero_or_pos sz with h0 | h0
  · subst h0
    obtain rfl : r = [] := List.eq_nil_of_length_eq_zero hl
    have hrun : (loadVar t ⟨b, off + i * 0, none⟩).run P w = .ok (.agg #[]) w := by
      simp only [loadVar, Sem.run_bind, ht, Result.andThen_ok, if_true, hn, loadCells, loadCellsFrom]
      rfl
    simpa using hrun
  · have hlast : cur[off + i * sz + (sz - 1)]? = some (r[sz - 1]'(by omega)) := hc _ _ (by simp)
    have hsz : off + i * sz + sz ≤ cur.size := by
      have := (Array.getElem?_eq_some_iff.1 hlast).1
      omega
    rw [run_loadVarN ht hn hb hsz]
    congr 2
    apply Array.ext'
    apply List.ext_getElem?
    intro k
    simp only [List.getElem?_take, List.getElem?_drop]
    by_cases hk : k < sz
    · rw [if_pos hk]
      have h1 : r[k]? = some (r[k]'(by omega)) := by simp [hl, hk]
      rw [h1]
      have := hc k _ h1
      simpa [Array.getElem?_toList] using this
    · rw [if_neg hk]
      exact (List.getElem?_eq_none (by omega)).symm
theorem Rws.load1 {P : Program} {w : World} {b off sz : Nat} {raws : List (List Value)} (h : Rws w (some ⟨b, off, none⟩) sz raws) {i k : Nat} {r : List Value} {v : Value} (hr : raws[i]? = some r) (hk : r[k]? = some v) {t : TypeId} (ht : ∀ w, (isAgg t).run P w = .ok false w) :
    (loadVar t ⟨b, off + i * sz + k, none⟩).run P w = .ok v w := by
  obtain ⟨b', off', cur, ty, fr, hA, hb, hc⟩ := h.cell i r hr
  cases hA
  exact run_loadVar1 ht hb (hc k v hk)

/-! ## lists -/
def IntsV (v : Value) (xs : List Int) (w : World) : Prop := xs.length ≤ 140737488355328 ∧ (∀ x, x ∈ xs → I64 x) ∧ ∃ A c, v = .slice A xs.length c ∧ xs.length ≤ c ∧ Rws w A 1 (xs.map fun x => [.int .i64 x])
theorem IntsV.to {v : Value} {xs : List Int} {w w' : World} (h : IntsV v xs w) (k : Same w w') : IntsV v xs w' := by
  obtain ⟨h1, h2, A, c, h3, h4, h5⟩ := h
  exact ⟨h1, h2, A, c, h3, h4, h5.to k⟩
/-- A slice of what 'R' says of an element's cells. -/
def ListV {α : Type} (R : List Value → α → World → Prop) (sz : Nat) (v : Value) (xs : List α) (w : World) : Prop :=
  xs.length ≤ 140737488355328 ∧ ∃ A c raws, v = .slice A xs.length c ∧ xs.length ≤ c ∧ raws.length = xs.length ∧ Rws w A sz raws ∧ ∀ (i : Nat) r x, raws[i]? = some r → xs[i]? = some x → R r x w
theorem ListV.to {α : Type} {R : List Value → α → World → Prop} {sz : Nat} {v : Value} {xs : List α} {w w' : World} (h : ListV R sz v xs w) (k : Same w w') (hR : ∀ r x, R r x w → R r x w') : ListV R sz v xs w' := by
  obtain ⟨h1, A, c, raws, h2, h3, h4, h5, h6⟩ := h
  exact ⟨h1, A, c, raws, h2, h3, h4, h5.to k, fun i r x hr hx => hR r x (h6 i r x hr hx)⟩

structure InsD where
  is : Int
  d : Int
  a : Int
  b : Int
  op : Int
  k : Int
  v : Int
  name : ByteArray
  l : List Int
structure CodeD where
  name : ByteArray
  ret : Int
  args : List Int
  has : Bool
  regs : Int
  l : List InsD
instance : Inhabited InsD := ⟨⟨0, 0, 0, 0, 0, 0, 0, ⟨#[]⟩, []⟩⟩
instance : Inhabited CodeD := ⟨⟨⟨#[]⟩, 0, [], false, 0, []⟩⟩
def InsC (r : List Value) (x : InsD) (w : World) : Prop :=
  I64 x.is ∧ I64 x.d ∧ I64 x.a ∧ I64 x.b ∧ I64 x.op ∧ I64 x.k ∧ I64 x.v ∧ ∃ lv, r = [.int .i64 x.is, .int .i64 x.d, .int .i64 x.a, .int .i64 x.b, .int .i64 x.op, .int .i64 x.k, .int .i64 x.v, .string x.name, lv] ∧ IntsV lv x.l w
theorem InsC.to {r : List Value} {x : InsD} {w w' : World} (h : InsC r x w) (k : Same w w') : InsC r x w' := by
  obtain ⟨h1, h2, h3, h4, h5, h6, h7, lv, h8, h9⟩ := h
  exact ⟨h1, h2, h3, h4, h5, h6, h7, lv, h8, h9.to k⟩
def CodeC (r : List Value) (c : CodeD) (w : World) : Prop :=
  I64 c.ret ∧ I64 c.regs ∧ ∃ av lv, r = [.string c.name, .int .i64 c.ret, av, .bool c.has, .int .i64 c.regs, lv] ∧ IntsV av c.args w ∧ ListV InsC 9 lv c.l w
theorem CodeC.to {r : List Value} {c : CodeD} {w w' : World} (h : CodeC r c w) (k : Same w w') : CodeC r c w' := by
  obtain ⟨h1, h2, av, lv, h3, h4, h5⟩ := h
  exact ⟨h1, h2, av, lv, h3, h4.to k, h5.to k fun r x hx => hx.to k⟩
abbrev CodesV (v : Value) (l : List CodeD) (w : World) : Prop := ListV CodeC 6 v l w
theorem CodesV.to {v : Value} {l : List CodeD} {w w' : World} (h : CodesV v l w) (k : Same w w') : CodesV v l w' := ListV.to h k fun _ _ hx => hx.to k

/-! ## the first index -/
def fstIdx (p : Nat → Bool) (n : Nat) : Int := match (List.range n).find? p with
  | some i => (i : Int)
  | none => -1
theorem fstIdx_hit {p : Nat → Bool} {n k : Nat} (h : k < n) (hp : p k = true) (hb : ∀ j, j < k → p j = false) : fstIdx p n = k := by
  have : (List.range n).find? p = some k := by
    rw [List.find?_range_eq_some]
    exact ⟨hp, List.mem_range.2 h, fun j hj => by simp [hb j hj]⟩
  simp [fstIdx, this]
theorem fstIdx_miss {p : Nat → Bool} {n : Nat} (hb : ∀ j, j < n → p j = false) : fstIdx p n = -1 := by
  have : (List.range n).find? p = none := by
    rw [List.find?_eq_none]
    intro x hx
    simp [hb x (List.mem_range.1 hx)]
  simp [fstIdx, this]
/-! ## elements, by their address -/
theorem Rws.isSome {w : World} {A : Option Addr} {sz : Nat} {raws : List (List Value)} (h : Rws w A sz raws) {i : Nat} {r : List Value} (hr : raws[i]? = some r) : ∃ ad, A = .some ad := by
  obtain ⟨b, off, cur, ty, fr, hA, -, -⟩ := h.cell i r hr
  exact ⟨_, hA⟩
section
variable {P : Program} {w : World} {ad : Addr} {sz : Nat} {raws : List (List Value)} {i : Nat} {r : List Value} {e : Int} {t : TypeId}
theorem Rws.getN (h : Rws w (.some ad) sz raws) (hr : raws[i]? = .some r) (he : e.toNat = i) (ht : ∀ w, (isAgg t).run P w = .ok true w) (hn : ∀ w, (sizeOf t).run P w = .ok sz w) :
    (loadVar t (ad.add (e.toNat * sz))).run P w = .ok (.agg r.toArray) w := by
  obtain ⟨b, off, cur, ty, fr, hA, -, -⟩ := h.cell i r hr
  cases hA
  subst he
  rw [add_lit]
  exact h.loadN hr ht hn
theorem Rws.get1 (h : Rws w (.some ad) sz raws) (hr : raws[i]? = .some r) (he : e.toNat = i) {k : Nat} {v : Value} (hv : r[k]? = .some v) (ht : ∀ w, (isAgg t).run P w = .ok false w) :
    (loadVar t ((ad.add (e.toNat * sz)).add k)).run P w = .ok v w := by
  obtain ⟨b, off, cur, ty, fr, hA, -, -⟩ := h.cell i r hr
  cases hA
  subst he
  rw [add_lit, add_lit]
  exact h.load1 hr hv ht
theorem Rws.get0 (h : Rws w (.some ad) sz raws) (hr : raws[i]? = .some r) (he : e.toNat = i) {v : Value} (hv : r[0]? = .some v) (ht : ∀ w, (isAgg t).run P w = .ok false w) :
    (loadVar t (ad.add (e.toNat * sz))).run P w = .ok v w := by
  obtain ⟨b, off, cur, ty, fr, hA, -, -⟩ := h.cell i r hr
  cases hA
  subst he
  rw [add_lit]
  exact h.load1 (k := 0) hr hv ht
end
theorem getE {α : Type} {l : List α} {k : Nat} (h : k < l.length) : ∃ x, l[k]? = some x := ⟨l[k], by simp [h]⟩
theorem Below.far {a b c : World} (h : Below a.heap.size a b) (k : Below b.heap.size b c) : Below a.heap.size a c := h.trans (k.mono h.size)
/-- a variable that another function has boxed -/
def Cel (w : World) (b : Nat) (cs : List Value) : Prop := ∃ ty, w.heap[b]? = some (.cells cs.toArray ty (0, 0))
theorem Cel.to {w w' : World} {b : Nat} {cs : List Value} (h : Cel w b cs) (k : Same w w') : Cel w' b cs := by
  obtain ⟨ty, h⟩ := h
  exact ⟨ty, by rw [k b (Array.getElem?_eq_some_iff.1 h).1]; exact h⟩
theorem Cel.get1 {P : Program} {w : World} {b k : Nat} {cs : List Value} {t : TypeId} {v : Value} (h : Cel w b cs) (hv : cs[k]? = some v) (ht : ∀ w, (isAgg t).run P w = .ok false w) : (loadVar t ⟨b, k, none⟩).run P w = .ok v w := by
  obtain ⟨ty, h⟩ := h
  exact run_loadVar1 ht h (by simpa using hv)
theorem Cel.getN {P : Program} {w : World} {b : Nat} {cs : List Value} {t : TypeId} (h : Cel w b cs) (ht : ∀ w, (isAgg t).run P w = .ok true w) (hn : ∀ w, (sizeOf t).run P w = .ok cs.length w) : (loadVar t ⟨b, 0, none⟩).run P w = .ok (.agg cs.toArray) w := by
  obtain ⟨ty, h⟩ := h
  rw [run_loadVarN (off := 0) ht hn h (by simp)]
  simp
theorem denL_cv {ν : Val} : ∀ l : List Value, denL ν (cv l) = l
  | [] => rfl
  | v :: r => by simp only [cv, List.map_cons, denL, SV.den]; exact congrArg _ (denL_cv r)
theorem Cel.of {ν : Val} {w : World} {b ty : Nat} {cs : List Value} (h : (box (.c b) (cv cs) ty).P ν w) : Cel w b cs := by
  refine ⟨ty, ?_⟩
  have h' : w.heap[b]? = some (.cells (denL ν (cv cs)).toArray ty (0, 0)) := h
  rw [h', denL_cv]
theorem Cel.ofb {ν : Val} {w : World} {bv : BV} {ty : Nat} {cs : List SV} (h : (box bv cs ty).P ν w) : Cel w (bv.den ν) (denL ν cs) := ⟨ty, h⟩
/-- Is there one of which it holds? -/
def anyIdx (p : Nat → Bool) (n : Nat) : Bool := decide ((0 : Int) ≤ fstIdx p n)
theorem anyIdx_eq {α : Type} (p : Nat → Bool) (q : α → Bool) (l : List α) (h : ∀ k x, l[k]? = some x → p k = q x) : anyIdx p l.length = l.any q := by
  unfold anyIdx
  by_cases hx : ∃ k, k < l.length ∧ p k = true
  · have : l.any q = true := by
      obtain ⟨k, hk, hp⟩ := hx
      obtain ⟨x, hx⟩ := getE hk
      rw [List.any_eq_true]
      exact ⟨x, List.mem_of_getElem? hx, by rw [← h k x hx]; exact hp⟩
    rw [this]
    have hf : ((List.range l.length).find? p).isSome = true := by
      rw [List.find?_isSome]
      obtain ⟨k, hk, hp⟩ := hx
      exact ⟨k, List.mem_range.2 hk, hp⟩
    obtain ⟨i, hi⟩ := Option.isSome_iff_exists.1 hf
    simp [fstIdx, hi]
  · have hn : ∀ k, k < l.length → p k = false := fun k hk => by
      cases hp : p k
      · rfl
      · exact absurd ⟨k, hk, hp⟩ hx
    rw [fstIdx_miss hn]
    have : l.any q = false := by
      rw [List.any_eq_false]
      intro x hx
      obtain ⟨k, hk⟩ := List.getElem?_of_mem hx
      rw [← h k x hk, hn k (List.getElem?_eq_some_iff.1 hk).1]
      simp
    rw [this]
    rfl
/-- the place of the first -/
def idxOf {α : Type} (q : α → Bool) (l : List α) : Int := fstIdx (fun k => (l[k]?).any q) l.length
theorem fstIdx_congr {p q : Nat → Bool} {n : Nat} (h : ∀ k, k < n → p k = q k) : fstIdx p n = fstIdx q n := by
  unfold fstIdx
  have : (List.range n).find? p = (List.range n).find? q := by
    have : ∀ l : List Nat, (∀ k, k ∈ l → p k = q k) → l.find? p = l.find? q := by
      intro l
      induction l with
      | nil => intro _; rfl
      | cons a r ih =>
        intro h
        simp only [List.find?_cons, h a (by simp)]
        rw [ih fun k hk => h k (by simp [hk])]
    exact this _ fun k hk => h k (List.mem_range.1 hk)
  rw [this]
theorem idxOf_eq {α : Type} (p : Nat → Bool) (q : α → Bool) (l : List α) (h : ∀ k x, l[k]? = some x → p k = q x) : fstIdx p l.length = idxOf q l := by
  refine fstIdx_congr fun k hk => ?_
  obtain ⟨x, hx⟩ := getE hk
  rw [h k x hx, hx]
  rfl
theorem idxOf_lt {α : Type} (q : α → Bool) (l : List α) : idxOf q l < l.length ∧ -1 ≤ idxOf q l := by
  unfold idxOf fstIdx
  split
  · rename_i i hi
    have := List.mem_range.1 (List.mem_of_find?_eq_some hi)
    omega
  · omega
/-- cells that stand in a block -/
def Has (w : World) (b : Nat) (vs : List Value) : Prop := ∃ (cur : Array Value) (ty : TypeId) (fr : Nat × Nat), w.heap[b]? = some (.cells cur ty fr) ∧ ∀ (k : Nat) (v : Value), vs[k]? = some v → cur[k]? = some v
theorem Has.to {w w' : World} {b : Nat} {vs : List Value} (h : Has w b vs) (k : Same w w') : Has w' b vs := by
  obtain ⟨cur, ty, fr, hb, hc⟩ := h
  exact ⟨cur, ty, fr, by rw [k b (Array.getElem?_eq_some_iff.1 hb).1]; exact hb, hc⟩
theorem Has.get {P : Program} {w : World} {b : Nat} {vs : List Value} {k : Int} {v : Value} {t : TypeId} (h : Has w b vs) (hv : vs[k.toNat]? = some v) (ht : ∀ w, (isAgg t).run P w = .ok false w) : (loadVar t ((⟨b, 0, none⟩ : Addr).add (k.toNat * 1))).run P w = .ok v w := by
  obtain ⟨cur, ty, fr, hb, hc⟩ := h
  rw [add_lit]
  exact run_loadVar1 ht hb (by simpa using hc _ _ hv)
end Go.Sx
