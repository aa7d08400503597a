/- A reckoner of closed runs, its fourteenth part: ranges over functions; all code. No program in it. -/
import Derived.Test.YtgpgppjfjeiceaaDoorX13
namespace Go.Xe
open Go.RowKit

/-! ## memory that grows by an object, or that is turned -/
theorem MemOk.step [Sy] {G : Nat} {S : Nat → Prop} {ws : World} {ν : Val} {h : Nat → Option SObj} {w w' : World} (hm : MemOk G S ws ν h w) (hg : Below 0 w w') (hs : ∀ k, k < w.heap.size → w'.heap[k]? = w.heap[k]?) : MemOk G S ws ν h w' := by
  refine ⟨fun n o hn => (SObj.loc o (hs _ (SObj.lt o (hm.obj n o hn)))).2 (hm.obj n o hn), hm.inj, hm.out, hm.glob, hm.grow.trans hg, fun k hk hl => ?_⟩
  rw [hs k (Nat.lt_of_lt_of_le hl hm.grow.size)]
  exact hm.same k hk hl
theorem MemOk.cong [Sy] {G : Nat} {S : Nat → Prop} {ws : World} {ν ν' : Val} {H : Hp} {c : Nat} {w : World} (hm : MemOk G S ws ν (fun m => hget m H) w) (hk : HpOk c H) (hG : G ≤ c) (h : ∀ k, lt c k = true → ν' k = ν k) : MemOk G S ws ν' (fun m => hget m H) w := by
  have hb : ∀ n o, hget n H = some o → ν' n = ν n := fun n o hn => h n (by simpa [lt] using (hk n o hn).1)
  refine ⟨fun n o hn => ?_, fun n m o o' h1 h2 hq => ?_, fun n o hn hS => ?_, fun g hg => ?_, hm.grow, hm.same⟩
  · have := hk n o hn
    exact (SObj.cong (d := lt c) (fun k hk => (h k hk).symm) o (by simpa [lt] using this.1) this.2).1 (hm.obj n o hn)
  · rw [hb n o h1, hb m o' h2] at hq
    exact hm.inj n m o o' h1 h2 hq
  · rw [hb n o hn] at hS ⊢
    exact hm.out n o hn hS
  · rw [h g (by simp only [lt, Nat.blt_eq]; omega)]
    exact hm.glob g hg
theorem HpOk.cons [Sy] {c : Nat} {H : Hp} {o : SObj} (hk : HpOk c H) (ho : o.ok (lt (c + 1)) = true) : HpOk (c + 1) ((c, o) :: H) := by
  intro n u hn
  simp only [hget] at hn
  cases hb : Nat.beq c n with
  | true =>
    rw [hb] at hn
    injection hn with hn; subst hn
    obtain rfl := beq_true hb
    exact ⟨by omega, ho⟩
  | false =>
    rw [hb] at hn
    have := hk n u hn
    exact ⟨by omega, SObj.ok_mono (lt_mono (Nat.le_add_right c 1)) u this.2⟩
theorem MemOk.cons [Sy] {G : Nat} {S : Nat → Prop} {ws : World} {ν : Val} {H : Hp} {c : Nat} {w : World} {o : SObj} {ob : Obj} (hm : MemOk G S ws ν (fun m => hget m H) w) (hk : HpOk c H) (hG : G ≤ c)
    (hd : o.den (setV ν c ⟨w.heap.size, 0⟩) c (w.alloc ob)) : MemOk G S ws (setV ν c ⟨w.heap.size, 0⟩) (fun m => hget m ((c, o) :: H)) (w.alloc ob) := by
  have hm1 : MemOk G S ws (setV ν c ⟨w.heap.size, 0⟩) (fun m => hget m H) (w.alloc ob) :=
    (hm.step (alloc_grow w ob) (fun k hk => alloc_old hk)).cong hk hG (fun k hk' => setV_ne ν _ (fun q => by have := blt_true hk'; omega))
  have key : ∀ n u, hget n ((c, o) :: H) = some u → (n = c ∧ u = o) ∨ (n ≠ c ∧ hget n H = some u) := by
    intro n u hn
    simp only [hget] at hn
    cases hb : Nat.beq c n with
    | true => rw [hb] at hn; injection hn with hn; exact .inl ⟨(beq_true hb).symm, hn.symm⟩
    | false => rw [hb] at hn; exact .inr ⟨fun q => beq_false hb q.symm, hn⟩
  have oldlt : ∀ n u, hget n H = some u → (setV ν c ⟨w.heap.size, 0⟩ n).b < w.heap.size := by
    intro n u hn
    have hne : c ≠ n := fun q => by have := (hk n u hn).1; omega
    rw [setV_ne ν _ hne]
    exact SObj.lt u (hm.obj n u hn)
  refine ⟨fun n u hn => ?_, fun n m u u' h1 h2 hq => ?_, fun n u hn hS => ?_, hm1.glob, hm1.grow, hm1.same⟩
  · rcases key n u hn with ⟨rfl, rfl⟩ | ⟨_, h'⟩
    · exact hd
    · exact hm1.obj n u h'
  · rcases key n u h1 with ⟨rfl, rfl⟩ | ⟨_, h1'⟩ <;> rcases key m u' h2 with ⟨rfl, rfl⟩ | ⟨_, h2'⟩
    · rfl
    · have := oldlt m u' h2'
      rw [← hq, setV_self] at this
      exact absurd this (Nat.lt_irrefl _)
    · have := oldlt n u h1'
      rw [hq, setV_self] at this
      exact absurd this (Nat.lt_irrefl _)
    · exact hm1.inj n m u u' h1' h2' hq
  · rcases key n u hn with ⟨rfl, rfl⟩ | ⟨_, h'⟩
    · rw [setV_self]; exact hm.grow.size
    · exact hm1.out n u h' hS
/-- An object is turned. -/
theorem MemOk.turn [Sy] {G : Nat} {S : Nat → Prop} {ws : World} {ν : Val} {H H' : Hp} {w : World} {l : Nat} {o : SObj} {ob : Obj} (hm : MemOk G S ws ν (fun m => hget m H) w) (hl : hget l H = some o)
    (hH : ∀ n u, hget n H' = some u → n ≠ l → hget n H = some u) (hd : ∀ u, hget l H' = some u → u.den ν l (w.putObj (ν l).b ob)) : MemOk G S ws ν (fun m => hget m H') (w.putObj (ν l).b ob) := by
  have hlt : (ν l).b < w.heap.size := SObj.lt o (hm.obj l o hl)
  have ex : ∀ n u, hget n H' = some u → ∃ u', hget n H = some u' := fun n u hn => by
    by_cases q : n = l
    · exact ⟨o, by rw [q]; exact hl⟩
    · exact ⟨u, hH n u hn q⟩
  refine ⟨fun n u hn => ?_, fun n m u u' h1 h2 hq => ?_, fun n u hn hS => ?_, hm.glob, hm.grow.trans (put_grow w _ _), fun k hk hlk => ?_⟩
  · by_cases q : n = l
    · subst q; exact hd u hn
    · have hn' := hH n u hn q
      refine (SObj.loc u (World.putObj_heap_other fun e => q ?_)).2 (hm.obj n u hn')
      exact hm.inj n l u o hn' hl e
  · obtain ⟨x, hx⟩ := ex n u h1
    obtain ⟨y, hy⟩ := ex m u' h2
    exact hm.inj n m x y hx hy hq
  · obtain ⟨x, hx⟩ := ex n u hn
    exact hm.out n x hx hS
  · rw [World.putObj_heap_other fun e => ?_]
    · exact hm.same k hk hlk
    · have := hm.out l o hl (e ▸ hk)
      omega
theorem hget_del_ne [Sy] {l n : Nat} {H : Hp} {u : SObj} (h : hget n (hdel l H) = some u) : n ≠ l ∧ hget n H = some u := by
  rw [hget_del] at h
  split at h
  · cases h
  · exact ⟨fun q => ‹¬ _› q.symm, h⟩
theorem HpOk.del [Sy] {c l : Nat} {H : Hp} (h : HpOk c H) : HpOk c (hdel l H) := fun n u hn => h n u (hget_del_ne hn).2
theorem run_enterLoop_inner [Sy] {P : Program} {w : World} {l0 : Nat} {r : Loop} (fn : FuncId) (tmps : Array Value) (ps : Array Tmp) (assign body : Code) (h : w.heap[l0]? = some (.loop r)) :
    (Instr.enterLoop fn tmps ps assign body (some l0)).run P w = .ok (w.heap.size, []) (w.alloc (.loop { state := .ready, pending := none, fn, tmps, params := ps, assign, body, defers := r.defers })) := by
  unfold Instr.enterLoop
  simp only [Sem.run_bind, run_getLoop h, Result.andThen, Sem.run_pure, newObj_run]

section
variable {E : Env} {call : Orc} {rnd : Rnd} {n : Nat} {ro : Option Nat}
theorem Sat.hasT [Sy] {C : Cx} {T : Tm} {H : Hp} {c : Nat} {ν : Val} {a : Act} {w : World} (h : Sat C (stOf C.n T H c) ν a w) : HasT ν C.n T a.tmps :=
  ⟨h.size, fun t ht => h.slot t _ (by simp [stOf, ht])⟩
/-- The loop's record is there: the call, and what comes behind it. -/
theorem range_tail [Sy] (hc : CallOk E call) {g : Operand} {m : Ms} {f : FuncId} {first cap : Array Value} {l c1 c2 : Nat} {H1 H2 : Hp} {D1 : List Nat} {v : Value} {x : Xt} {st : LoopState} {pe : Option Code} {n' : Nat} {T' : Tm} {ps' : Array Tmp} {as' bo' : Code} {d' : Nat}
    (hm : MsOk E.G m) (hok : okO E.G n g = true) (hg : evT m.T g = .func (.func f) first cap) (hl : l < c1) (hle : m.c ≤ c1) (hH1 : HpOk c1 H1) (hD : ∀ d, d ∈ D1 → d < c1) (hnew : ∀ k, hget k m.H = none → hget k H1 ≠ none → m.c ≤ k)
    (hcall : call f (first.toList ++ [.func (.yield l) #[] #[]] ++ cap.toList) H1 c1 = some (v, H2, c2)) (hL : hget l H2 = some (.loop st pe n' T' ps' as' bo' d')) (hst : st ≠ .busy) (hx : jumpOf pe = some x) :
    MsGo E.G m ⟨m.T, hdel l H2, c2, D1⟩ ∧
    ∀ (S : Nat → Prop) (ws : World) (ν ν1 : Val) (a : Act) (w w1 : World) (Q : Exit → Act → World → Prop) (ro' : Option Nat) (mark : List Deferred), At E n S ws m ν a w → Same m.c ν ν1 → MemOk E.G S ws ν1 (fun k => hget k H1) w1 → mark ++ a.defers = marks ν1 D1 →
      (∀ ν' a' w', Same m.c ν ν' → At E n S ws ⟨m.T, hdel l H2, c2, D1⟩ ν' a' w' → Q (toExit x) a' w') →
      ∃ d w₁' f' args w₂, (resolve a.eval (rangeCall g (ν1 l).b) 0).run E.P w1 = .ok d w₁' ∧ (∀ f', Target.leads E.P w₁' d.target d.args = some f' → (fence ro').fn f') ∧
        (invoke d.target d.args).run E.P w₁' = .ok (.enter f' args) w₂ ∧ CallsIn (fence ro') 0 E.P f' args w₂ (rangePost (fence ro') 0 E.P (ν1 l).b Q { a with defers := mark ++ a.defers }) := by
  have hfv : okV (lt m.c) (evT m.T g) = true := evT_ok hm.tm hok hm.g
  rw [hg] at hfv
  simp only [okV, Bool.and_eq_true] at hfv
  have arr : ∀ a : Array Value, okR (lt m.c) a = true → okL (lt c1) a.toList = true := fun a h => by
    cases a; exact okL_mono (lt_mono hle) _ h
  have hargs : okL (lt c1) (first.toList ++ [.func (.yield l) #[] #[]] ++ cap.toList) = true := by
    refine okL_app (okL_app (arr _ hfv.2.1) ?_) (arr _ hfv.2.2)
    simp only [okL, okV, okFn, okR, Bool.and_eq_true, and_true]
    simpa [lt] using hl
  obtain ⟨hcame, hcf, hsem⟩ := hc f _ H1 c1 v H2 c2 hcall (Nat.le_trans hm.g hle) hargs hH1
  refine ⟨⟨⟨okT_mono (lt_mono (Nat.le_trans hle hcame.le)) _ hm.tm, hcame.hp.del, Nat.le_trans hm.g (Nat.le_trans hle hcame.le), fun d hd => Nat.lt_of_lt_of_le (hD d hd) hcame.le⟩, Nat.le_trans hle hcame.le, fun k h0 h2 => ?_⟩, ?_⟩
  · cases h1 : hget k H1 with
    | none =>
      have : hget k H2 ≠ none := fun q => by
        apply h2
        show hget k (hdel l H2) = none
        rw [hget_del]
        split
        · rfl
        · exact q
      have := hcame.new k h1 this
      omega
    | some o => exact hnew k h0 (by rw [h1]; simp)
  · intro S ws ν ν1 a w w1 Q ro' mark hA hs1 hmem hmk hQ
    have hev : a.eval g = .func (.func f) (rnR ν first) (rnR ν cap) := by
      rw [at_eval hA hok, hg]
      rfl
    have eR : ∀ z : Array Value, okR (lt m.c) z = true → rnR ν z = rnR ν1 z := fun z hz => rnR_cong (d := lt m.c) (fun k hk => (hs1 k hk).symm) z hz
    have hax : (rnR ν first ++ #[.func (.yield (ν1 l).b) #[] #[]] ++ rnR ν cap : Array Value) = (rnL ν1 (first.toList ++ [.func (.yield l) #[] #[]] ++ cap.toList)).toArray := by
      rw [eR _ hfv.2.1, eR _ hfv.2.2]
      apply Array.ext'
      simp [rnL_app, rnR_toList, rnL, rn, rnFn, rnR]
    refine ⟨{ target := .fn (.func f) (rnR ν cap), args := rnR ν first ++ #[.func (.yield (ν1 l).b) #[] #[]] }, w1, f, (rnL ν1 (first.toList ++ [.func (.yield l) #[] #[]] ++ cap.toList)).toArray, w1, ?_, fun _ _ => trivial, ?_, ?_⟩
    · simp only [resolve, hev]
      simp [Deferred.ofValue, Act.eval]
    · simp only [invoke]
      rw [hax]
      exact hcf _ _
    · refine calls_in ((hsem S ws ν1 w1 hmem).mono ?_)
      rintro e w3 ⟨ν2, rfl, hext, hmem2⟩
      have hs2 : Same c1 ν1 ν2 := fun k hk => hext k (by
        cases hb : inR c1 c2 k
        · rfl
        · have := (inR_iff.1 hb).1; have := blt_true hk; omega)
      have hl2 : (ν1 l).b = (ν2 l).b := by rw [hs2 l (by simpa [lt] using hl)]
      obtain ⟨fn0, tm0, hblk, _⟩ := hmem2.obj l _ hL
      have hend := run_endLoop (P := E.P) (w := w3) hblk (by simpa using hst)
      have hmem3 := hmem2.turn (ob := .loop { state := .exhausted, pending := pe, fn := fn0, tmps := tm0, params := ps', assign := as', body := bo', defers := (ν2 d').b }) (H' := hdel l H2) hL (fun k u hk hne => (hget_del_ne hk).2) (fun u hu => absurd rfl (hget_del_ne hu).1)
      have hs : Same m.c ν ν2 := hs1.trans hs2 hle
      have hA' : At E n S ws ⟨m.T, hdel l H2, c2, D1⟩ ν2 { a with defers := mark ++ a.defers } (w3.putObj (ν2 l).b (.loop { state := .exhausted, pending := pe, fn := fn0, tmps := tm0, params := ps', assign := as', body := bo', defers := (ν2 d').b })) := by
        refine MemOk.sat (C := cxOf E n S ws (marks ν2 D1)) hmem3 hA.size ?_ ?_ (okT_mono (lt_mono (Nat.le_trans hle hcame.le)) _ hm.tm) hcame.hp.del (Nat.le_trans hm.g (Nat.le_trans hle hcame.le))
        · show mark ++ a.defers = marks ν2 D1
          rw [hmk, marks_cong hD hs2]
        · intro t ht
          have := hA.slot t _ (show (stOf n m.T m.H m.c).slots t = some (tget t m.T) by simp [stOf]; exact ht)
          show a.tmps[t]? = _
          rw [this, rn_cong (d := lt m.c) (fun k hk => (hs k hk).symm) _ (okT_get hm.tm)]
      rw [hl2]
      refine ⟨pe, _, hend, ?_⟩
      have hq := hQ ν2 _ _ hs hA'
      unfold jumpOf at hx
      split at hx
      · injection hx with hx; subst hx
        exact hq
      · injection hx with hx; subst hx
        exact wpIn_ret hq
      · injection hx with hx; subst hx
        exact wpIn_exit hq
      · cases hx
theorem range_goes [Sy] (hc : CallOk E call) {g : Operand} {ps : Array Tmp} {as bo : Code} {m m' : Ms} {x : Xt} (hok : okO E.G n g = true) (h : rangeC call n ro g ps as bo m = some (x, m')) (hm : MsOk E.G m) (hro : ∀ l, ro = some l → l < m.c) : CodeGoes E n ro (.rangeFunc g ps as bo) m x m' := by
  unfold rangeC at h
  split at h
  · rename_i f first cap hg
    have tail : ∀ l H1 c1 D1, (match call f (first.toList ++ [.func (.yield l) #[] #[]] ++ cap.toList) H1 c1 with
      | some (_, H2, c2) => match hget l H2 with
        | some (.loop .busy _ _ _ _ _ _ _) => none
        | some (.loop _ pe _ _ _ _ _ _) => match jumpOf pe with
          | some x => some (x, (⟨m.T, hdel l H2, c2, D1⟩ : Ms))
          | none => none
        | _ => none
      | none => none) = some (x, m') → ∃ v H2 c2 st pe n' T' ps' as' bo' d', call f (first.toList ++ [.func (.yield l) #[] #[]] ++ cap.toList) H1 c1 = some (v, H2, c2) ∧ hget l H2 = some (.loop st pe n' T' ps' as' bo' d') ∧ st ≠ .busy ∧ jumpOf pe = some x ∧ m' = ⟨m.T, hdel l H2, c2, D1⟩ := by
      intro l H1 c1 D1 h
      split at h
      · rename_i v H2 c2 hcall
        split at h
        · cases h
        · rename_i st pe n' T' ps' as' bo' d' hne hL
          split at h
          · rename_i x' hx
            injection h with h
            obtain ⟨rfl, rfl⟩ := Prod.mk.inj h
            refine ⟨v, H2, c2, st, pe, n', T', ps', as', bo', d', hcall, hL, ?_, hx, rfl⟩
            rintro rfl
            exact hne rfl
          · cases h
        · cases h
      · cases h
    cases ro with
    | none =>
      simp only at h
      obtain ⟨v, H2, c2, st, pe, n', T', ps', as', bo', d', hcall, hL, hst, hx, rfl⟩ := tail _ _ _ _ h
      have hd : HpOk (m.c + 1) ((m.c, SObj.dfr) :: m.H) := hm.hp.cons rfl
      have hlp : (SObj.loop .ready none n m.T ps as bo m.c).ok (lt (m.c + 1 + 1)) = true := by
        simp only [SObj.ok, Bool.and_eq_true]
        exact ⟨okT_mono (lt_mono (by omega)) _ hm.tm, by simp [lt, Nat.blt_eq]; omega⟩
      have hH1 : HpOk (m.c + 2) ((m.c + 1, SObj.loop .ready none n m.T ps as bo m.c) :: (m.c, SObj.dfr) :: m.H) := hd.cons hlp
      obtain ⟨hgo, hsem⟩ := range_tail (n := n) hc hm hok hg (show m.c + 1 < m.c + 2 by omega) (show m.c ≤ m.c + 2 by omega) hH1 (D1 := m.c :: m.D) (fun d hd => by
        rcases List.mem_cons.1 hd with rfl | hd
        · omega
        · have := hm.d d hd; omega) (fun k h0 h1 => by
        simp only [hget] at h1
        cases hb : Nat.beq (m.c + 1) k with
        | true => have := beq_true hb; omega
        | false =>
          rw [hb] at h1
          simp only [cond_false] at h1
          cases hb2 : Nat.beq m.c k with
          | true => have := beq_true hb2; omega
          | false => rw [hb2] at h1; exact absurd h0 h1) hcall hL hst hx
      refine ⟨hgo, ?_⟩
      intro S ws ν a w Q hA hQ
      refine wpIn_rangeFunc ?_
      intro fn _
      have hmem := hA.mem
      -- the block of the deferred calls
      have m1 := MemOk.cons (o := .dfr) (ob := .deferred (some [])) hmem hm.hp hm.g (by simp only [SObj.den, setV_self]; exact World.alloc_heap_new w _)
      have hsz : (w.alloc (.deferred (some []))).heap.size = w.heap.size + 1 := World.size_alloc _ _
      have hT1 : HasT (setV (setV ν m.c ⟨w.heap.size, 0⟩) (m.c + 1) ⟨w.heap.size + 1, 0⟩) n m.T a.tmps := by
        have h0 : HasT ν n m.T a.tmps := Sat.hasT (C := cxOf E n S ws (marks ν m.D)) hA
        refine h0.cong (d := lt m.c) (fun k hk => ?_) hm.tm
        have := blt_true hk
        rw [setV_ne _ _ (show m.c + 1 ≠ k by omega), setV_ne _ _ (show m.c ≠ k by omega)]
      have m2 := MemOk.cons (o := .loop .ready none n m.T ps as bo m.c) (ob := .loop { state := .ready, pending := none, fn, tmps := a.tmps, params := ps, assign := as, body := bo, defers := w.heap.size }) m1 hd (Nat.le_trans hm.g (Nat.le_succ _)) (by
        rw [hsz]
        refine ⟨fn, a.tmps, ?_, hT1⟩
        rw [setV_self, setV_ne _ _ (show m.c + 1 ≠ m.c by omega), setV_self]
        have := World.alloc_heap_new (w.alloc (.deferred (some []))) (.loop { state := .ready, pending := none, fn, tmps := a.tmps, params := ps, assign := as, body := bo, defers := w.heap.size })
        rw [hsz] at this
        exact this)
      rw [hsz] at m2
      have hs1 : Same m.c ν (setV (setV ν m.c ⟨w.heap.size, 0⟩) (m.c + 1) ⟨w.heap.size + 1, 0⟩) := by
        intro k hk
        have := blt_true hk
        rw [setV_ne _ _ (show m.c + 1 ≠ k by omega), setV_ne _ _ (show m.c ≠ k by omega)]
      have hdef : a.defers = marks ν m.D := hA.defs
      obtain ⟨d, w₁', f', args, w₂, r1, r2, r3, r4⟩ := hsem S ws ν _ a w _ Q (roOf ν none) [{ target := .collected w.heap.size, args := #[] }] hA hs1 m2 (by
        rw [hdef]
        show _ = markD _ m.c :: marks _ m.D
        rw [marks_cong hm.d hs1]
        simp only [markD, List.cons_append, List.nil_append]
        rw [setV_ne _ _ (show m.c + 1 ≠ m.c by omega), setV_self]) hQ
      rw [setV_self] at r1 r4
      exact ⟨_, _, _, d, w₁', f', args, w₂, run_enterLoop_outer fn a.tmps ps as bo, r1, r2, r3, fun q => by simp [fence, Fence.wide] at q, r4⟩
    | some l0 =>
      cases hl0 : hget l0 m.H with
      | none => simp [hl0] at h
      | some ob =>
      cases ob with
      | loop st0 pe0 n0 T0 ps0 as0 bo0 d0 =>
        simp only [hl0] at h
        obtain ⟨v, H2, c2, st, pe, n', T', ps', as', bo', d', hcall, hL, hst, hx, rfl⟩ := tail _ _ _ _ h
        have hd0 : d0 < m.c := by
          have := (hm.hp l0 _ hl0).2
          simp only [SObj.ok, Bool.and_eq_true] at this
          simpa [lt] using this.2
        have hlp : (SObj.loop .ready none n m.T ps as bo d0).ok (lt (m.c + 1)) = true := by
          simp only [SObj.ok, Bool.and_eq_true]
          exact ⟨okT_mono (lt_mono (by omega)) _ hm.tm, by simp [lt, Nat.blt_eq]; omega⟩
        have hH1 : HpOk (m.c + 1) ((m.c, SObj.loop .ready none n m.T ps as bo d0) :: m.H) := hm.hp.cons hlp
        obtain ⟨hgo, hsem⟩ := range_tail (n := n) hc hm hok hg (show m.c < m.c + 1 by omega) (show m.c ≤ m.c + 1 by omega) hH1 (D1 := m.D) (fun d hd => by have := hm.d d hd; omega) (fun k h0 h1 => by
          simp only [hget] at h1
          cases hb : Nat.beq m.c k with
          | true => have := beq_true hb; omega
          | false => rw [hb] at h1; exact absurd h0 h1) hcall hL hst hx
        refine ⟨hgo, ?_⟩
        intro S ws ν a w Q hA hQ
        refine wpIn_rangeFunc ?_
        intro fn _
        have hmem := hA.mem
        obtain ⟨fn0, tm0, hblk, _⟩ := hmem.obj l0 _ hl0
        have hT1 : HasT (setV ν m.c ⟨w.heap.size, 0⟩) n m.T a.tmps := by
          have h0 : HasT ν n m.T a.tmps := Sat.hasT (C := cxOf E n S ws (marks ν m.D)) hA
          refine h0.cong (d := lt m.c) (fun k hk => ?_) hm.tm
          have := blt_true hk
          rw [setV_ne _ _ (show m.c ≠ k by omega)]
        have m2 := MemOk.cons (o := .loop .ready none n m.T ps as bo d0) (ob := .loop { state := .ready, pending := none, fn, tmps := a.tmps, params := ps, assign := as, body := bo, defers := (ν d0).b }) hmem hm.hp hm.g (by
          refine ⟨fn, a.tmps, ?_, hT1⟩
          rw [setV_self, setV_ne _ _ (show m.c ≠ d0 by omega)]
          exact World.alloc_heap_new w _)
        have hs1 : Same m.c ν (setV ν m.c ⟨w.heap.size, 0⟩) := by
          intro k hk
          have := blt_true hk
          rw [setV_ne _ _ (show m.c ≠ k by omega)]
        have hdef : a.defers = marks ν m.D := hA.defs
        obtain ⟨d, w₁', f', args, w₂, r1, r2, r3, r4⟩ := hsem S ws ν _ a w _ Q (roOf ν (some l0)) [] hA hs1 m2 (by
          rw [hdef, List.nil_append]
          exact (marks_cong hm.d hs1).symm) hQ
        rw [setV_self] at r1 r4
        exact ⟨_, _, _, d, w₁', f', args, w₂, run_enterLoop_inner fn a.tmps ps as bo hblk, r1, r2, r3, fun q => by simp [fence, Fence.wide] at q, r4⟩
      | _ => simp [hl0] at h
  · cases h
end
end Go.Xe
