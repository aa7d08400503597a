/- A reckoner of closed runs, its fifteenth part: functions, rounds, whole runs. No program in it. -/
import Derived.Test.YtgpgppjfjeiceaaDoorX14
namespace Go.Xe
open Go.RowKit

section
variable {E : Env} {call : Orc} {rnd : Rnd}
theorem exec_goes [Sy] (hE : E.Ok) (hmix : E.P.follows .mixedOrders = true) (hc : CallOk E call) (hr : RndOk E rnd) {n : Nat} {ro : Option Nat} : ∀ (cd : Code) (m : Ms) (x : Xt) (m' : Ms), okC E.G n cd = true → execC E call rnd n ro cd m = some (x, m') → MsOk E.G m → (∀ l, ro = some l → l < m.c) → CodeGoes E n ro cd m x m'
  | .skip, m, x, m', _, h, hm, hro => by
    simp only [execC, Option.some.injEq, Prod.mk.injEq] at h
    obtain ⟨rfl, rfl⟩ := h
    exact ⟨.refl hm, fun S ws ν a w Q hA hQ => wpIn_skip (hQ ν a w (.refl _ _) hA)⟩
  | .label l, m, x, m', _, h, hm, hro => by
    simp only [execC, Option.some.injEq, Prod.mk.injEq] at h
    obtain ⟨rfl, rfl⟩ := h
    exact ⟨.refl hm, fun S ws ν a w Q hA hQ => wpIn_label (hQ ν a w (.refl _ _) hA)⟩
  | .exit id, m, x, m', _, h, hm, hro => by
    simp only [execC, Option.some.injEq, Prod.mk.injEq] at h
    obtain ⟨rfl, rfl⟩ := h
    exact ⟨.refl hm, fun S ws ν a w Q hA hQ => wpIn_exit (hQ ν a w (.refl _ _) hA)⟩
  | .goto l, m, x, m', _, h, hm, hro => by
    simp only [execC, Option.some.injEq, Prod.mk.injEq] at h
    obtain ⟨rfl, rfl⟩ := h
    exact ⟨.refl hm, fun S ws ν a w Q hA hQ => wpIn_goto (hQ ν a w (.refl _ _) hA)⟩
  | .ret, m, x, m', _, h, hm, hro => by
    simp only [execC, Option.some.injEq, Prod.mk.injEq] at h
    obtain ⟨rfl, rfl⟩ := h
    exact ⟨.refl hm, fun S ws ν a w Q hA hQ => wpIn_ret (hQ ν a w (.refl _ _) hA)⟩
  | .refuse _, m, x, m', _, h, hm, hro => by cases h
  | .region id ops draw, m, x, m', hok, h, hm, hro => by
    simp only [execC] at h
    split at h
    · rename_i m1 h1
      simp only [Option.some.injEq, Prod.mk.injEq] at h
      obtain ⟨rfl, rfl⟩ := h
      exact region_goes hE hmix hc hr hok h1 hm hro
    · cases h
  | .seq p q, m, x, m', hok, h, hm, hro => by
    simp only [okC, Bool.and_eq_true] at hok
    simp only [execC] at h
    split at h
    · rename_i m1 h1
      obtain ⟨g1, w1⟩ := exec_goes hE hmix hc hr p m .normal m1 hok.1 h1 hm hro
      obtain ⟨g2, w2⟩ := exec_goes hE hmix hc hr q m1 x m' hok.2 h g1.ok (fun l hl => Nat.lt_of_lt_of_le (hro l hl) g1.le)
      refine ⟨g1.trans g2, fun S ws ν a w Q hA hQ => wpIn_seq ?_⟩
      refine w1 S ws ν a w _ hA fun ν1 a1 w1' hs hA1 => ?_
      have := w2 S ws ν1 a1 w1' Q hA1 fun ν2 a2 w2' hs2 hA2 => hQ ν2 a2 w2' (hs.trans hs2 g1.le) hA2
      rw [roOf_same hro hs] at this
      exact this
    · rename_i hne
      obtain ⟨g1, w1⟩ := exec_goes hE hmix hc hr p m x m' hok.1 h hm hro
      refine ⟨g1, fun S ws ν a w Q hA hQ => wpIn_seq (w1 S ws ν a w _ hA fun ν1 a1 w1' hs hA1 => ?_)⟩
      have := hQ ν1 a1 w1' hs hA1
      cases x with
      | normal => exact absurd h (hne m')
      | exit id => exact this
      | goto l => exact this
      | ret => exact this
  | .cond k p q, m, x, m', hok, h, hm, hro => by
    simp only [okC, Bool.and_eq_true] at hok
    simp only [execC] at h
    split at h
    · rename_i t ht
      cases t with
      | true =>
        obtain ⟨g1, w1⟩ := exec_goes hE hmix hc hr p m x m' hok.2.1 h hm hro
        refine ⟨g1, fun S ws ν a w Q hA hQ => wpIn_cond (t := true) ?_ (w1 S ws ν a w Q hA hQ)⟩
        rw [at_eval hA hok.1, ht]; rfl
      | false =>
        obtain ⟨g1, w1⟩ := exec_goes hE hmix hc hr q m x m' hok.2.2 h hm hro
        refine ⟨g1, fun S ws ν a w Q hA hQ => wpIn_cond (t := false) ?_ (w1 S ws ν a w Q hA hQ)⟩
        rw [at_eval hA hok.1, ht]; rfl
    · cases h
  | .block id p, m, x, m', hok, h, hm, hro => by
    simp only [okC] at hok
    simp only [execC] at h
    split at h
    · rename_i j m1 h1
      obtain ⟨g1, w1⟩ := exec_goes hE hmix hc hr p m _ m1 hok h1 hm hro
      cases hj : Nat.beq j id with
      | true =>
        rw [hj] at h
        simp only [cond_true, Option.some.injEq, Prod.mk.injEq] at h
        obtain ⟨rfl, rfl⟩ := h
        obtain rfl := beq_true hj
        refine ⟨g1, fun S ws ν a w Q hA hQ => wpIn_block (w1 S ws ν a w _ hA fun ν1 a1 w1' hs hA1 => ?_)⟩
        show Exit.inBlock j Q (.exit j) a1 w1'
        simp only [Exit.inBlock, if_true]
        exact hQ ν1 a1 w1' hs hA1
      | false =>
        rw [hj] at h
        simp only [cond_false, Option.some.injEq, Prod.mk.injEq] at h
        obtain ⟨rfl, rfl⟩ := h
        refine ⟨g1, fun S ws ν a w Q hA hQ => wpIn_block (w1 S ws ν a w _ hA fun ν1 a1 w1' hs hA1 => ?_)⟩
        show Exit.inBlock id Q (.exit j) a1 w1'
        simp only [Exit.inBlock, beq_false hj, if_false]
        exact hQ ν1 a1 w1' hs hA1
    · rename_i hne
      obtain ⟨g1, w1⟩ := exec_goes hE hmix hc hr p m x m' hok h hm hro
      refine ⟨g1, fun S ws ν a w Q hA hQ => wpIn_block (w1 S ws ν a w _ hA fun ν1 a1 w1' hs hA1 => ?_)⟩
      have := hQ ν1 a1 w1' hs hA1
      cases x with
      | normal => exact this
      | exit id => exact absurd h (hne id m')
      | goto l => exact this
      | ret => exact this
  | .loop p, m, x, m', hok, h, hm, hro => by
    simp only [okC] at hok
    simp only [execC] at h
    exact loop_w (fun m x m' h hm hro => exec_goes hE hmix hc hr p m x m' hok h hm hro) h hm hro
  | .scope p, m, x, m', hok, h, hm, hro => by
    simp only [okC] at hok
    simp only [execC] at h
    split at h
    · cases h
    · rename_i hne
      obtain ⟨g1, w1⟩ := exec_goes hE hmix hc hr p m x m' hok h hm hro
      refine ⟨g1, fun S ws ν a w Q hA hQ => wpIn_scope (w1 S ws ν a w _ hA fun ν1 a1 w1' hs hA1 => ?_)⟩
      have := hQ ν1 a1 w1' hs hA1
      cases x with
      | normal => exact this
      | exit id => exact this
      | goto l => exact absurd h (hne l m')
      | ret => exact this
  | .rangeFunc g ps p q, m, x, m', hok, h, hm, hro => by
    simp only [okC, Bool.and_eq_true] at hok
    simp only [execC] at h
    exact range_goes hc hok.1 h hm hro

/-! ## functions -/
theorem tget_arg [Sy] : ∀ (args : List Value) (k t : Nat), tget t (argT k args) = if k ≤ t then (args[t - k]?).getD undef else undef
  | [], k, t => by simp [argT, tget]
  | v :: r, k, t => by
    simp only [argT, tget]
    cases hb : Nat.beq k t with
    | true =>
      obtain rfl := beq_true hb
      simp
    | false =>
      have hne := beq_false hb
      simp only [cond_false]
      rw [tget_arg r (k + 1) t]
      by_cases h : k ≤ t
      · rw [if_pos h, if_pos (by omega), show t - k = (t - (k + 1)) + 1 by omega]
        simp
      · rw [if_neg h, if_neg (by omega)]
theorem okT_arg {c : Nat} : ∀ (args : List Value) (k : Nat), okL (lt c) args = true → okT (lt c) (argT k args) = true
  | [], _, _ => rfl
  | v :: r, k, h => by
    simp only [okL, Bool.and_eq_true] at h
    simp only [argT, okT, Bool.and_eq_true]
    exact ⟨h.1, okT_arg r (k + 1) h.2⟩
theorem arg_slots [Sy] {ν : Val} {args : List Value} {n t : Nat} (hl : args.length ≤ n) (ht : t < n) : ((rnL ν args).toArray ++ Array.replicate (n - (rnL ν args).toArray.size) undef)[t]? = some (rn ν (tget t (argT 0 args))) := by
  rw [tget_arg, if_pos (Nat.zero_le _), Nat.sub_zero]
  have hs : (rnL ν args).toArray.size = args.length := by simp [rnL_len]
  by_cases h : t < args.length
  · rw [Array.getElem?_append_left (by rw [hs]; exact h), List.getElem?_toArray, rnL_get]
    simp [h]
  · rw [Array.getElem?_append_right (by rw [hs]; omega), List.getElem?_eq_none (by omega), hs]
    simp [show t - args.length < n - args.length by omega]
    rfl
theorem callF_run {P : Program} {f : FuncId} {fn : Func} {b : Code} (hf : P.funcs[f]? = some fn) (hb : fn.body = some b) (hn : (fn.name == "runtime.NumGoroutine") = false) (as : Array Value) (w : World) : (callFunc f as).run P w = .ok (.enter f as) w := by
  have hn' : ¬ fn.name = "runtime.NumGoroutine" := by simpa using hn
  simp [callFunc, hf, hn', hb]
theorem load_cell [Sy] {P : Program} {H : Hp} {t : TypeId} {x : Value} {e : En} {ν : Val} {w : World} (h : loadS P H t x = some e) (hH : Holds H e ν w) : (do loadVar t (← asAddr (rn ν x)) : Sem Value).run P w = .ok (rn ν e.v) w := by
  have hr := (load_run h hH).2.2.2
  unfold loadS at h
  split at h
  · simp only [rn, Option.map_some, Instr.loadAt, Instr.sureAddr, asAddr] at hr ⊢
    exact hr
  · cases h
theorem takeD_leaves [Sy] {P : Program} {fn : Func} {tmps : Array Value} {R : Ending → World → Prop} {G : Nat} {S : Nat → Prop} {ws : World} {ν : Val} : ∀ (D : List Nat) (H H' : Hp) (w : World), takeD D H = some H' → MemOk G S ws ν (fun k => hget k H) w →
    (∀ w', MemOk G S ws ν (fun k => hget k H') w' → LeavesInM Fence.wide 0 P fn tmps R [] .returning w') → LeavesInM Fence.wide 0 P fn tmps R (marks ν D) .returning w
  | [], H, H', w, h, hm, hk => by
    injection h with h; subst h
    exact hk w hm
  | d :: r, H, H', w, h, hm, hk => by
    unfold takeD at h
    split at h
    · rename_i hd
      have hblk := hm.obj d _ hd
      refine ⟨by simp, .inl ⟨(ν d).b, w.putObj (ν d).b (.deferred none), rfl, run_takeDeferred hblk, ?_⟩⟩
      exact takeD_leaves r _ H' _ h (hm.turn hd (fun k u hk hne => (hget_del_ne hk).2) (fun u hu => absurd rfl (hget_del_ne hu).1)) hk
    · cases h
theorem takeD_sub [Sy] : ∀ (D : List Nat) (H H' : Hp), takeD D H = some H' → Sub H' H
  | [], H, H', h => by injection h with h; subst h; exact fun _ _ h => h
  | d :: r, H, H', h => by
    unfold takeD at h
    split at h
    · exact fun n o hn => (hget_del_ne (takeD_sub r _ H' h n o hn)).2
    · cases h
def resM (tmps : Array Value) : ResultVar → Sem Value
  | .tmp t => pure (tmps.getD t undef)
  | .cell a t => do loadVar t (← asAddr (tmps.getD a undef))
def resLt (n : Nat) : ResultVar → Bool
  | .tmp t => Nat.blt t n
  | .cell a _ => Nat.blt a n
theorem res_run [Sy] {P : Program} {T : Tm} {H : Hp} {ν : Val} {w : World} {tmps : Array Value} {n : Nat} (hH : ∀ k o, hget k H = some o → o.den ν k w) (hs : ∀ t, t < n → tmps[t]? = some (rn ν (tget t T))) : ∀ (rs : List ResultVar) (vs : List Value), resS P T H rs = some vs →
    rs.all (resLt n) = true → (rs.mapM (resM tmps)).run P w = .ok (rnL ν vs) w
  | [], vs, h, _ => by
    injection h with h; subst h
    simp [rnL]
  | r :: rs, vs, h, hn => by
    simp only [List.all_cons, Bool.and_eq_true] at hn
    cases r with
    | tmp t =>
      simp only [resS] at h
      obtain ⟨us, hu, rfl⟩ := Option.map_eq_some_iff.1 h
      have ht := hs t (blt_true hn.1)
      have ih := res_run hH hs rs us hu hn.2
      simp only [List.mapM_cons, resM, Sem.run_bind, Sem.run_pure, Result.andThen_ok, ih]
      simp [rnL, Array.getD_eq_getD_getElem?, ht]
    | cell a t =>
      simp only [resS] at h
      split at h
      · rename_i e he
        obtain ⟨us, hu, rfl⟩ := Option.map_eq_some_iff.1 h
        have ht := hs a (blt_true hn.1)
        have ih := res_run hH hs rs us hu hn.2
        have hl := load_cell (P := P) (w := w) (ν := ν) he ⟨fun k o _ ho => hH k o ho⟩
        have hg : tmps.getD a undef = rn ν (tget a T) := by simp [Array.getD_eq_getD_getElem?, ht]
        simp only [List.mapM_cons, resM, hg]
        rw [Sem.run_bind, hl]
        simp only [Result.andThen_ok, Sem.run_bind, ih, Sem.run_pure, rnL]
      · cases h
theorem res_ok [Sy] {P : Program} {T : Tm} {H : Hp} {c : Nat} (hT : okT (lt c) T = true) (hH : HpOk c H) : ∀ (rs : List ResultVar) (vs : List Value), resS P T H rs = some vs → okL (lt c) vs = true
  | [], vs, h => by injection h with h; subst h; rfl
  | .tmp t :: rs, vs, h => by
    simp only [resS] at h
    obtain ⟨us, hu, rfl⟩ := Option.map_eq_some_iff.1 h
    simp only [okL, Bool.and_eq_true]
    exact ⟨okT_get hT, res_ok hT hH rs us hu⟩
  | .cell a t :: rs, vs, h => by
    simp only [resS] at h
    split at h
    · rename_i e he
      obtain ⟨us, hu, rfl⟩ := Option.map_eq_some_iff.1 h
      simp only [okL, Bool.and_eq_true]
      refine ⟨?_, res_ok hT hH rs us hu⟩
      unfold loadS at he
      split at he
      · split at he
        · rename_i cs hcs
          obtain ⟨o, ho, hoc⟩ := Option.bind_eq_some_iff.1 hcs
          have hcok := cells_ok hoc (hH _ o ho).2
          split at he
          · obtain ⟨v, hv, rfl⟩ := Option.map_eq_some_iff.1 he
            exact okL_all.1 hcok v (List.mem_of_getElem? hv)
          · split at he
            · obtain ⟨_, rfl⟩ := bif_some he
              exact okL_sub hcok fun v hv => List.mem_of_mem_drop (List.mem_of_mem_take hv)
            · cases he
          · cases he
        · cases he
      · cases he
    · cases h
theorem results_run [Sy] {P : Program} {fn : Func} {T : Tm} {H : Hp} {ν : Val} {w : World} {tmps : Array Value} {vs : List Value} (hH : ∀ k o, hget k H = some o → o.den ν k w) (hs : ∀ t, t < fn.ntmps → tmps[t]? = some (rn ν (tget t T))) (h : resS P T H fn.results.toList = some vs)
    (hn : fn.results.toList.all (resLt fn.ntmps) = true) : (results fn tmps).run P w = .ok (rn ν (tupS vs)) w := by
  have hr := res_run (P := P) hH hs fn.results.toList vs h hn
  have e : results fn tmps = (do
    let vs ← fn.results.mapM (resM tmps)
    pure (if h : vs.size = 1 then vs[0] else .tuple vs)) := rfl
  rw [e, Array.mapM_eq_mapM_toList]
  simp only [map_eq_pure_bind, Sem.run_bind]
  rw [hr]
  simp only [Result.andThen_ok, Sem.run_pure]
  congr 1
  match vs with
  | [] => simp [rnL, tupS, rn, rnR]
  | [v] => simp [rnL, tupS]
  | v :: u :: r => simp [rnL, tupS, rn, rnR]
/-- The names that a call makes are its own: what it leaves, told so. -/
theorem ends_of [Sy] {G c c' : Nat} {v : Value} {H' : Hp} {S : Nat → Prop} {ws : World} {ν ν' : Val} {w' : World} (hs : Same c ν ν') (hc : c ≤ c') (hv : okV (lt c') v = true) (hk : HpOk c' H') (hG : G ≤ c) (hm : MemOk G S ws ν' (fun k => hget k H') w') : Ends G c c' v H' S ws ν (.returned (rn ν' v)) w' := by
  have key : ∀ k, lt c' k = true → (fun k => bif inR c c' k then ν' k else ν k) k = ν' k := by
    intro k hk
    simp only
    cases hb : inR c c' k with
    | true => rfl
    | false =>
      have h1 := blt_true hk
      have h2 : k < c := by
        by_cases q : k < c
        · exact q
        · have : inR c c' k = true := inR_iff.2 ⟨by omega, h1⟩
          rw [this] at hb; cases hb
      exact (hs k (by simpa [lt] using h2)).symm
  refine ⟨fun k => bif inR c c' k then ν' k else ν k, ?_, fun k hk => by simp [hk], ?_⟩
  · rw [rn_cong key v hv]
  · exact hm.cong hk (Nat.le_trans hG hc) key
theorem call_ok [Sy] (hE : E.Ok) (hmix : E.P.follows .mixedOrders = true) (hc : CallOk E call) (hr : RndOk E rnd) : CallOk E (callB E call rnd) := by
  intro f args H c v H' c' h hG hargs hH
  unfold callB at h
  split at h
  · rename_i fn hf
    split at h
    · rename_i b hb
      obtain ⟨hq, h⟩ := bif_none h
      simp only [Bool.or_eq_false_iff, Bool.not_eq_false'] at hq
      have hlen := ble_true hq.1
      have hokF := hq.2
      unfold okF at hokF
      rw [hb] at hokF
      simp only [Bool.and_eq_true, Bool.not_eq_true'] at hokF
      obtain ⟨hokc, hname, hres⟩ := hokF
      have hres : fn.results.toList.all (resLt fn.ntmps) = true := by
        rw [← hres]
        congr 1
      split at h
      · rename_i x m hx
        have hms : MsOk E.G ⟨argT 0 args, H, c, []⟩ := ⟨okT_arg args 0 hargs, hH, hG, fun d hd => by simp at hd⟩
        obtain ⟨g, hw⟩ := exec_goes hE hmix hc hr (n := fn.ntmps) (ro := none) b _ x m hokc hx hms (fun l hl => by cases hl)
        have fin : (match takeD m.D m.H with
            | some H' => match resS E.P m.T H' fn.results.toList with
              | some vs => some (tupS vs, H', m.c)
              | none => none
            | none => none) = some (v, H', c') → (∀ a w (R : Ending → World → Prop), LeavesInM Fence.wide 0 E.P fn a.tmps R a.defers .returning w → bodyPostM Fence.wide 0 E.P fn R (toExit x) a w) →
            Came E.G args H c v H' c' ∧ (∀ as w, (callFunc f as).run E.P w = .ok (.enter f as) w) ∧ ∀ (S : Nat → Prop) (ws : World) ν w, MemOk E.G S ws ν (fun m => hget m H) w → Calls E.P f (rnL ν args).toArray w (Ends E.G c c' v H' S ws ν) := by
          intro h hexit
          split at h
          · rename_i H1 ht
            split at h
            · rename_i vs hvs
              simp only [Option.some.injEq, Prod.mk.injEq] at h
              obtain ⟨rfl, rfl, rfl⟩ := h
              have hsub := takeD_sub _ _ _ ht
              have hk1 : HpOk m.c H1 := g.ok.hp.sub hsub
              have hvok : okV (lt m.c) (tupS vs) = true := by
                have := res_ok g.ok.tm hk1 _ _ hvs
                match vs, this with
                | [], _ => rfl
                | [v], h => simpa [okL, tupS] using h
                | v :: u :: r, h => exact h
              refine ⟨⟨g.le, hvok, hk1, fun k h0 h1 => ?_⟩, callF_run hf hb hname, ?_⟩
              · refine g.new k h0 fun q => h1 ?_
                cases hq : hget k H1 with
                | none => rfl
                | some o =>
                  have := hsub k o hq
                  rw [q] at this; cases this
              · intro S ws ν w hm
                refine callsIn_wide.1 (callsIn_of_wp_marks (F := Fence.wide) (n := 0) hf hb trivial ?_)
                have hA : At E fn.ntmps S ws ⟨argT 0 args, H, c, []⟩ ν { tmps := (rnL ν args).toArray ++ Array.replicate (fn.ntmps - (rnL ν args).toArray.size) undef, defers := [] } w := by
                  refine MemOk.sat (C := cxOf E fn.ntmps S ws (marks ν [])) hm ?_ rfl (fun t ht => arg_slots hlen ht) (okT_arg args 0 hargs) hH hG
                  simp only [cxOf, Array.size_append, Array.size_replicate, List.size_toArray, rnL_len]
                  omega
                refine hw S ws ν _ w (bodyPostM Fence.wide 0 E.P fn _) hA fun ν' a' w' hs hA' => hexit a' w' _ ?_
                have hd : a'.defers = marks ν' m.D := hA'.defs
                rw [hd]
                refine takeD_leaves m.D m.H H1 w' ht hA'.mem fun w2 hm2 => ?_
                have hslots : ∀ t, t < fn.ntmps → a'.tmps[t]? = some (rn ν' (tget t m.T)) := fun t ht => hA'.slot t _ (by simp [stOf, ht])
                exact ⟨_, results_run hm2.obj hslots hvs hres, ends_of hs g.le hvok hk1 hG hm2⟩
            · cases h
          · cases h
        cases x with
        | normal => exact fin h (fun a w R hl => hl)
        | ret => exact fin h (fun a w R hl => hl)
        | exit id => cases h
        | goto l => cases h
      · cases h
    · cases h
  · cases h
theorem putPs_ok {c : Nat} : ∀ (ps : List Tmp) (vs : List Value) (T : Tm), okL (lt c) vs = true → okT (lt c) T = true → okT (lt c) (putPs ps vs T) = true
  | [], _, _, _, hT => hT
  | _ :: _, [], _, _, hT => hT
  | p :: ps, v :: vs, T, h, hT => by
    simp only [okL, Bool.and_eq_true] at h
    simp only [putPs]
    exact putPs_ok ps vs _ h.2 (by simp only [okT, Bool.and_eq_true]; exact ⟨h.1, hT⟩)
theorem putPs_has [Sy] {ν : Val} {n : Nat} : ∀ (ps : List Tmp) (vs : List Value) (T : Tm) (a : Array Value), (∀ p, p ∈ ps → p < n) → HasT ν n T a → HasT ν n (putPs ps vs T) ((ps.zip (rnL ν vs)).foldl (fun tmps (t, x) => tmps.setIfInBounds t x) a)
  | [], _, _, _, _, h => h
  | _ :: _, [], _, _, _, h => by simpa [putPs, rnL] using h
  | p :: ps, v :: vs, T, a, hp, h => by
    simp only [putPs, rnL, List.zip_cons_cons, List.foldl_cons]
    refine putPs_has ps vs _ _ (fun q hq => hp q (by simp [hq])) ⟨by simp [h.1], fun t ht => ?_⟩
    simp only [tget]
    have hps : p < a.size := by rw [h.1]; exact hp p (by simp)
    cases hb : Nat.beq p t with
    | true =>
      obtain rfl := beq_true hb
      simp [hps]
    | false =>
      simp only [cond_false]
      rw [Array.getElem?_setIfInBounds_ne (beq_false hb)]
      exact h.2 t ht
theorem HpOk.set [Sy] {c l : Nat} {H : Hp} {o : SObj} (h : HpOk c H) (hl : l < c) (ho : o.ok (lt c) = true) : HpOk c (hset l o H) := by
  intro n u hn
  rw [hget_set] at hn
  split at hn
  · rename_i q
    injection hn with hn; subst hn; subst q
    exact ⟨hl, ho⟩
  · exact h n u hn
theorem MemOk.setO [Sy] {G : Nat} {S : Nat → Prop} {ws : World} {ν : Val} {H : Hp} {w : World} {l : Nat} {o o' : SObj} {ob : Obj} (hm : MemOk G S ws ν (fun m => hget m H) w) (hl : hget l H = some o) (hd : o'.den ν l (w.putObj (ν l).b ob)) : MemOk G S ws ν (fun m => hget m (hset l o' H)) (w.putObj (ν l).b ob) := by
  refine hm.turn hl (fun n u hn hne => ?_) (fun u hu => ?_)
  · rw [hget_set] at hn
    split at hn
    · exact absurd ‹l = n›.symm hne
    · exact hn
  · rw [hget_set, if_pos rfl] at hu
    injection hu with hu; subst hu
    exact hd
theorem den_putLoop [Sy] {ν : Val} {w : World} {l : Nat} {r : Loop} {st : LoopState} {pe : Option Code} {n : Nat} {T : Tm} {ps : Array Tmp} {as bo : Code} {d : Nat} {fn : FuncId} {tm : Array Value} (hlt : (ν l).b < w.heap.size) (hr : r = { state := st, pending := pe, fn, tmps := tm, params := ps, assign := as, body := bo, defers := (ν d).b }) (hT : HasT ν n T tm) :
    (SObj.loop st pe n T ps as bo d).den ν l (w.putObj (ν l).b (.loop r)) := by
  subst hr
  exact ⟨fn, tm, World.putObj_heap_same hlt, hT⟩
theorem round_ok [Sy] (hE : E.Ok) (hmix : E.P.follows .mixedOrders = true) (hc : CallOk E call) (hr : RndOk E rnd) : RndOk E (rndB E call rnd) := by
  intro l args H c v H' c' h hG hargs hH
  unfold rndB at h
  split at h
  · rename_i pe0 n T ps as bo d0 hl
    obtain ⟨hq, h⟩ := bif_none h
    simp only [Bool.or_eq_false_iff, Bool.not_eq_false', Bool.and_eq_true] at hq
    obtain ⟨⟨hlen, hps⟩, hoka, hokb⟩ := hq
    have hlen := beq_true hlen
    have hps' : ∀ p, p ∈ ps.toList → p < n := fun p hp => blt_true (List.all_eq_true.1 hps p hp)
    have hlc := hH l _ hl
    have hTok : okT (lt c) T = true := by
      have := hlc.2
      simp only [SObj.ok, Bool.and_eq_true] at this
      exact this.1
    split at h
    · rename_i m1 h1
      have hms : MsOk E.G ⟨putPs ps.toList args T, H, c, []⟩ := ⟨putPs_ok _ _ _ hargs hTok, hH, hG, fun d hd => by simp at hd⟩
      obtain ⟨g1, w1⟩ := exec_goes hE hmix hc hr (n := n) (ro := some l) as _ .normal m1 hoka h1 hms (fun k hk => by injection hk with hk; subst hk; exact hlc.1)
      split at h
      · rename_i pe1 n1 T1 ps1 as1 bo1 d1 hl1
        split at h
        · rename_i x m2 h2
          have hl1c := g1.ok.hp l _ hl1
          have hms2 : MsOk E.G ⟨m1.T, hset l (.loop .busy pe1 n1 T1 ps1 as1 bo1 d1) m1.H, m1.c, m1.D⟩ := ⟨g1.ok.tm, g1.ok.hp.set hl1c.1 hl1c.2, g1.ok.g, g1.ok.d⟩
          obtain ⟨g2, w2⟩ := exec_goes hE hmix hc hr (n := n) (ro := some l) bo _ x m2 hokb h2 hms2 (fun k hk => by injection hk with hk; subst hk; exact hl1c.1)
          split at h
          · rename_i st2 pe2 n2 T2 ps2 as2 bo2 d2 hl2
            simp only [Option.some.injEq, Prod.mk.injEq] at h
            obtain ⟨rfl, rfl, rfl⟩ := h
            have hl2c := g2.ok.hp l _ hl2
            have hkf : HpOk m2.c (hset l (.loop (bif xtNone x then .ready else .done) (xtCode x) n2 T2 ps2 as2 bo2 d2) m2.H) := g2.ok.hp.set hl2c.1 hl2c.2
            have hle : c ≤ m2.c := Nat.le_trans g1.le g2.le
            refine ⟨⟨hle, rfl, hkf, fun k h0 h3 => ?_⟩, ?_⟩
            · by_cases q : k = l
              · subst q; rw [hl] at h0; cases h0
              · have h3' : hget k m2.H ≠ none := by
                  rw [hget_set, if_neg (fun e => q e.symm)] at h3
                  exact h3
                cases h4 : hget k m1.H with
                | none =>
                  have := g2.new k (by
                    show hget k (hset l _ m1.H) = none
                    rw [hget_set, if_neg (fun e => q e.symm)]; exact h4) h3'
                  have := g1.le
                  exact Nat.le_trans this ‹_›
                | some o => exact g1.new k h0 (by rw [h4]; simp)
            · intro S ws ν w hm
              obtain ⟨fn0, tm0, hblk, hT0⟩ := hm.obj l _ hl
              refine ⟨fn0, (ps.toList.zip (rnL ν args)).foldl (fun tmps (t, x) => tmps.setIfInBounds t x) tm0, as, bo, ?_, fun ro' => ?_⟩
              · have := run_yield (P := E.P) (args := (rnL ν args).toArray) hblk (by simp [rnL_len]; rw [hlen]; simp)
                rw [this]
                congr 2
                rw [← Array.foldl_toList, Array.toList_zip]
              · refine roundIn_of_wpIn (F := fence ro') (n := 0) (fn_any ro' fn0) ?_
                have hA : At E n S ws ⟨putPs ps.toList args T, H, c, []⟩ ν { tmps := (ps.toList.zip (rnL ν args)).foldl (fun tmps (t, x) => tmps.setIfInBounds t x) tm0, defers := [] } w := by
                  have hh := putPs_has ps.toList args T tm0 hps' hT0
                  exact MemOk.sat (C := cxOf E n S ws (marks ν [])) hm hh.1 rfl (fun t ht => hh.2 t ht) (putPs_ok _ _ _ hargs hTok) hH hG
                refine w1 S ws ν _ w _ hA fun ν1 a1 w1' hs1 hA1 => ?_
                have hb1 : (ν1 l).b = (ν l).b := by rw [hs1 l (by simpa [lt] using hlc.1)]
                have hm1 := hA1.mem
                obtain ⟨fn1, tm1, hblk1, hT1⟩ := hm1.obj l _ hl1
                rw [← hb1]
                refine ⟨_, run_beginRound hblk1 rfl, ?_⟩
                have hlt1 : (ν1 l).b < w1'.heap.size := (Array.getElem?_eq_some_iff.1 hblk1).1
                have hm1' := hm1.setO hl1 (o' := .loop .busy pe1 n1 T1 ps1 as1 bo1 d1) (den_putLoop (fn := fn1) hlt1 rfl hT1)
                have hA1' : At E n S ws ⟨m1.T, hset l (.loop .busy pe1 n1 T1 ps1 as1 bo1 d1) m1.H, m1.c, m1.D⟩ ν1 a1 (w1'.putObj (ν1 l).b (.loop { state := .busy, pending := pe1, fn := fn1, tmps := tm1, params := ps1, assign := as1, body := bo1, defers := (ν1 d1).b })) :=
                  MemOk.sat (C := cxOf E n S ws (marks ν1 m1.D)) hm1' hA1.size hA1.defs (fun t ht => hA1.slot t _ (show (stOf n m1.T m1.H m1.c).slots t = some (tget t m1.T) from by have ht' : t < n := ht; simp [stOf, ht'])) g1.ok.tm hms2.hp g1.ok.g
                refine w2 S ws ν1 _ _ _ hA1' fun ν2 a2 w2' hs2 hA2 => ?_
                have hb2 : (ν2 l).b = (ν1 l).b := by rw [hs2 l (by simpa [lt] using hl1c.1)]
                have hm2 := hA2.mem
                obtain ⟨fn2, tm2, hblk2, hT2⟩ := hm2.obj l _ hl2
                have hlt2 : (ν2 l).b < w2'.heap.size := (Array.getElem?_eq_some_iff.1 hblk2).1
                have hend := fun j => run_endRound (P := E.P) j hblk2
                have hs : Same c ν ν2 := hs1.trans hs2 g1.le
                have fin : ∀ (j : Option Code) (bb : Bool), j = xtCode x → bb = xtNone x → j.isNone = bb → ∃ v w3, (Instr.endRound (ν1 l).b j).run E.P w2' = .ok v w3 ∧ Ends E.G c m2.c (.bool (xtNone x)) (hset l (.loop (bif xtNone x then .ready else .done) (xtCode x) n2 T2 ps2 as2 bo2 d2) m2.H) S ws ν (.returned v) w3 := by
                  rintro j bb rfl rfl hjb
                  refine ⟨_, _, by rw [← hb2]; exact hend _, ?_⟩
                  have hm3 := hm2.setO hl2 (o' := .loop (bif xtNone x then .ready else .done) (xtCode x) n2 T2 ps2 as2 bo2 d2) (ob := .loop { state := if (xtCode x).isNone then .ready else .done, pending := xtCode x, fn := fn2, tmps := tm2, params := ps2, assign := as2, body := bo2, defers := (ν2 d2).b }) (den_putLoop (fn := fn2) hlt2 (by
                    rw [hjb]
                    cases xtNone x <;> rfl) hT2)
                  have := ends_of (v := .bool (xtNone x)) hs hle rfl hkf hG hm3
                  rw [hjb] at this ⊢
                  exact this
                cases x with
                | normal => exact fin none true rfl rfl rfl
                | ret => exact fin (some .ret) false rfl rfl rfl
                | exit id => exact fin (some (.exit id)) false rfl rfl rfl
                | goto t => exact fin (some (.goto t)) false rfl rfl rfl
          · cases h
        · cases h
      · cases h
    · cases h
  · cases h
/-- WHAT IS RECKONED IS WHAT RUNS. -/
theorem orc_ok [Sy] {E : Env} (hE : E.Ok) (hmix : E.P.follows .mixedOrders = true) : ∀ k, CallOk E (orc E k).call ∧ RndOk E (orc E k).rnd
  | 0 => ⟨fun f args H c v H' c' h => (by cases h), fun l args H c v H' c' h => (by cases h)⟩
  | k + 1 => by
    obtain ⟨h1, h2⟩ := orc_ok hE hmix k
    exact ⟨call_ok hE hmix h1 h2, round_ok hE hmix h1 h2⟩
end
end Go.Xe
