/- A reckoner of closed runs, its twelfth part: regions, whole. No program in it. -/
import Derived.Test.YtgpgppjfjeiceaaDoorX11
namespace Go.Xe
open Go.RowKit

/-! ## equal values -/
mutual
theorem beqV_eq : ∀ (a b : Value), beqV a b = true → a = b
  | .bool a, b, h => by cases b <;> simp [beqV] at h; rw [h]
  | .int k a, b, h => by cases b <;> simp [beqV] at h; rw [h.1, h.2]
  | .string a, b, h => by
    cases b <;> simp [beqV] at h
    rename_i b
    obtain ⟨⟨a⟩⟩ := a
    obtain ⟨⟨b⟩⟩ := b
    simp only at h
    rw [h]
  | .pointer a, b, h => by cases b <;> simp [beqV] at h; rw [h]
  | .slice a n c, b, h => by cases b <;> simp [beqV] at h; rw [h.1, h.2.1, h.2.2]
  | .map a, b, h => by cases b <;> simp [beqV] at h; rw [h]
  | .func f x y, b, h => by
    cases b <;> simp [beqV] at h
    rw [h.1, beqR_eq _ _ h.2.1, beqR_eq _ _ h.2.2]
  | .nilFunc, b, h => by cases b <;> simp [beqV] at h; rfl
  | .nilIface, b, h => by cases b <;> simp [beqV] at h; rfl
  | .agg x, b, h => by cases b <;> simp [beqV] at h; rw [beqR_eq _ _ h]
  | .tuple x, b, h => by cases b <;> simp [beqV] at h; rw [beqR_eq _ _ h]
  | .float _ _, b, h => by cases b <;> simp [beqV] at h
  | .complex _ _ _, b, h => by cases b <;> simp [beqV] at h
  | .chan a, b, h => by cases b <;> simp [beqV] at h; rw [h]
  | .iface _ _, b, h => by cases b <;> simp [beqV] at h
theorem beqR_eq : ∀ (a b : Array Value), beqR a b = true → a = b
  | ⟨x⟩, ⟨y⟩, h => by
    simp only [beqR] at h
    rw [beqL_eq x y h]
theorem beqL_eq : ∀ (a b : List Value), beqL a b = true → a = b
  | [], b, h => by cases b <;> simp [beqL] at h; rfl
  | x :: r, b, h => by
    cases b with
    | nil => simp [beqL] at h
    | cons y s =>
      simp only [beqL, Bool.and_eq_true] at h
      rw [beqV_eq x y h.1, beqL_eq r s h.2]
end
theorem beqO_eq [Sy] {a b : SObj} (h : beqO a b = true) : a = b := by
  cases a <;> cases b <;> simp [beqO] at h
  · rw [h.1, beqL_eq _ _ h.2]
  · rw [h.1, h.2.1, beqL_eq _ _ h.2.2]

/-! ## a part of memory -/
def Sub (A H : Hp) : Prop := ∀ n o, hget n A = some o → hget n H = some o
theorem reach_sub [Sy] : ∀ (f : Nat) (l : List Nat) (H acc : Hp), Sub acc H → Sub (reach f l H acc) H
  | 0, _, _, _, h => h
  | _ + 1, [], _, _, h => h
  | f + 1, n :: r, H, acc, h => by
    unfold reach
    split
    · exact reach_sub f r H acc h
    · split
      · rename_i o ho
        refine reach_sub f _ H _ ?_
        intro m u hm
        simp only [hget] at hm
        cases hb : Nat.beq n m with
        | true =>
          rw [hb] at hm
          obtain rfl := beq_true hb
          injection hm with hm; subst hm
          exact ho
        | false => rw [hb] at hm; exact h m u hm
      · exact reach_sub f r H acc h
theorem globs_sub [Sy] {G : Nat} : ∀ H : Hp, Sub (globs G H) H
  | [] => fun _ _ h => by cases h
  | (k, o) :: r => by
    have ih := globs_sub (G := G) r
    intro m u hm
    simp only [globs] at hm
    simp only [hget]
    cases hk : Nat.beq k m with
    | true =>
      obtain rfl := beq_true hk
      cases hg : Nat.blt k G with
      | true => rw [hg] at hm; simpa [hget] using hm
      | false =>
        rw [hg] at hm
        -- a name below G would have been taken
        exfalso
        have : ∀ (L : Hp) u, hget k (globs G L) = some u → Nat.blt k G = true := by
          intro L
          induction L with
          | nil => intro u h; cases h
          | cons p L ih =>
            obtain ⟨j, w⟩ := p
            intro u h
            simp only [globs] at h
            cases hj : Nat.blt j G with
            | true =>
              rw [hj] at h
              simp only [cond_true, hget] at h
              cases hjk : Nat.beq j k with
              | true => rw [← beq_true hjk]; exact hj
              | false => rw [hjk] at h; exact ih u h
            | false => rw [hj] at h; exact ih u h
        rw [this r u hm] at hg
        cases hg
    | false =>
      simp only [cond_false]
      cases hg : Nat.blt k G with
      | true =>
        rw [hg] at hm
        simp only [cond_true, hget, hk, cond_false] at hm
        exact ih m u hm
      | false => rw [hg] at hm; exact ih m u hm
theorem mem_keys [Sy] {n : Nat} : ∀ {H : Hp}, n ∈ keys H ↔ ∃ o, hget n H = some o
  | [] => by simp [keys, hget]
  | (m, u) :: r => by
    simp only [keys, List.mem_cons, hget]
    cases hb : Nat.beq m n with
    | true =>
      obtain rfl := beq_true hb
      simp
    | false =>
      have : ¬ n = m := fun q => beq_false hb q.symm
      simp [this, mem_keys (H := r)]
theorem changed_get [Sy] {Hr H0 : Hp} {n : Nat} : ∀ L : Hp, hget n (changed Hr H0 L) = if n ∈ keys L then (match hget n H0 with
    | some o => match hget n Hr with
      | some o' => bif beqO o' o then none else some o
      | none => some o
    | none => none) else none
  | [] => by simp [changed, hget, keys]
  | (k, u) :: r => by
    have ih := changed_get (Hr := Hr) (H0 := H0) (n := n) r
    by_cases hk : k = n
    · subst hk
      simp only [keys, List.mem_cons, true_or, if_true]
      unfold changed
      cases h0 : hget k H0 with
      | none =>
        simp only
        rw [ih, h0]
        simp
      | some o =>
        simp only
        cases hr : hget k Hr with
        | none => simp [hget]
        | some o' =>
          simp only
          cases hb : beqO o' o with
          | true =>
            simp only [cond_true]
            rw [ih, h0, hr]
            simp [hb]
          | false => simp [hget]
    · have hk' : ¬ n = k := fun q => hk q.symm
      simp only [keys, List.mem_cons, hk', false_or]
      rw [← ih]
      conv => lhs; unfold changed
      cases h0 : hget k H0 with
      | none => rfl
      | some o =>
        simp only
        cases hr : hget k Hr with
        | none => simp [hget, beq_ne hk]
        | some o' =>
          simp only
          cases hb : beqO o' o with
          | true => rfl
          | false => simp [hget, beq_ne hk]
theorem gone_mem {H' : Hp} {n : Nat} : ∀ {Hr : Hp}, n ∈ gone H' Hr ↔ n ∈ keys Hr ∧ hget n H' = none
  | [] => by simp [gone, keys]
  | (k, u) :: r => by
    have ih := gone_mem (H' := H') (n := n) (Hr := r)
    unfold gone
    simp only [keys, List.mem_cons]
    cases h0 : hget k H' with
    | none =>
      simp only [List.mem_cons, ih]
      constructor
      · rintro (rfl | q)
        · exact ⟨.inl rfl, h0⟩
        · exact ⟨.inr q.1, q.2⟩
      · rintro ⟨rfl | q, h⟩
        · exact .inl rfl
        · exact .inr ⟨q, h⟩
    | some o =>
      simp only [ih]
      constructor
      · exact fun q => ⟨.inr q.1, q.2⟩
      · rintro ⟨rfl | q, h⟩
        · rw [h0] at h; cases h
        · exact ⟨q, h⟩

section
variable {E : Env} {call : Orc} {rnd : Rnd} {ro : Option Nat} {C : Cx} {all : List Oper}
theorem HpOk.sub {c : Nat} {A H : Hp} (h : HpOk c H) (hs : Sub A H) : HpOk c A := fun n o hn => h n o (hs n o hn)
theorem todo_came [Sy] (hc : CallOk E call) (hr : RndOk E rnd) {td : Todo} {H H' : Hp} {c c' : Nat} {v : Value} (h : doTodo call rnd H c td = some (v, H', c')) (hG : E.G ≤ c) (hargs : okL (lt c) td.args = true) (hH : HpOk c H) : ∃ as, Came E.G as H c v H' c' := by
  cases td with
  | call g as => exact ⟨as, (hc g as H c v H' c' h hG hargs hH).1⟩
  | round l as => exact ⟨as, (hr l as H c v H' c' h hG hargs hH).1⟩
/-- A call on a part of memory, as an entry. -/
theorem far_sound [Sy] (hc : CallOk E call) (hr : RndOk E rnd) (hP : C.P = E.P) (hEG : C.G = E.G) {o : Oper} {T : Tm} {H : Hp} {c : Nat} {td : Todo} {e : En} (ho : OperOk C.G C.n all o) (hw : wantedT all T o = true) (htd : todoS (evT T) o = some td)
    (h : farE E call rnd H c td = some e) (hT : okT (lt c) T = true) (hH : HpOk c H) (hG : C.G ≤ c) : Sound ro C all.toArray o (entX all T o H c e) := by
  unfold farE at h
  simp only at h
  split at h
  · rename_i v H' c' hd
    injection h with h; subst h
    have hsub := reach_sub 100000 (todoRoots td) H _ (globs_sub (G := E.G) H)
    generalize hHr : reach 100000 (todoRoots td) H (globs E.G H) = Hr at hd hsub ⊢
    have hargs := todo_args (n := C.n) ho htd hT hG
    obtain ⟨as, hcame⟩ := todo_came hc hr hd (hEG ▸ hG) hargs (hH.sub hsub)
    refine sound_far hc hr hP hEG ho hw htd hd hT (hH.sub hsub) hG rfl rfl rfl rfl ?_ ?_ ?_ ?_
    · show c + (c' - c) = c'
      have := hcame.le
      omega
    · intro n
      simp only [entX, entOf]
      cases hq : inB n (keys Hr) with
      | true =>
        obtain ⟨o', ho'⟩ := mem_keys.1 (inB_iff.1 hq)
        rw [ho']
        exact hsub n o' ho'
      | false =>
        cases hq2 : hget n Hr with
        | none => rfl
        | some o' => exact absurd (mem_keys.2 ⟨o', hq2⟩) (inB_of hq)
    · intro n hn
      simp only [entX, entOf, changed_get] at hn
      cases h0 : hget n H' with
      | some o' =>
        have hm : n ∈ keys H' := mem_keys.2 ⟨o', h0⟩
        rw [if_pos hm, h0] at hn
        simp only at hn
        cases hr2 : hget n Hr with
        | none => rw [hr2] at hn; simp at hn
        | some o2 =>
          rw [hr2] at hn
          simp only at hn
          cases hb : beqO o2 o' with
          | true => rw [beqO_eq hb]
          | false => rw [hb] at hn; simp at hn
      | none =>
        cases hr2 : hget n Hr with
        | none => rfl
        | some o2 =>
          have hg : inB n (gone H' Hr) = true := inB_iff.2 (gone_mem.2 ⟨mem_keys.2 ⟨o2, hr2⟩, h0⟩)
          have hm : ¬ n ∈ keys H' := fun q => by
            obtain ⟨x, hx⟩ := mem_keys.1 q
            rw [h0] at hx; cases hx
          rw [if_neg hm, hg] at hn
          simp at hn
    · intro n u hn
      simp only [entX, entOf, changed_get] at hn
      by_cases hm : n ∈ keys H'
      · rw [if_pos hm] at hn
        obtain ⟨o', h0⟩ := mem_keys.1 hm
        rw [h0] at hn ⊢
        have hng : inB n (gone H' Hr) = false := by
          cases hq : inB n (gone H' Hr)
          · rfl
          · have := (gone_mem.1 (inB_iff.1 hq)).2
            rw [h0] at this; cases this
        simp only [hng] at hn
        cases hr2 : hget n Hr with
        | none => rw [hr2] at hn; simp at hn; exact hn.symm
        | some o2 =>
          rw [hr2] at hn
          simp only at hn
          cases hb : beqO o2 o' with
          | true => rw [hb] at hn; simp at hn
          | false => rw [hb] at hn; simp at hn; exact hn.symm
      · rw [if_neg hm] at hn
        simp only at hn
        cases hq : inB n (gone H' Hr) with
        | false => rw [hq] at hn; cases hn
        | true =>
          rw [hq] at hn
          simp at hn
          rw [(gone_mem.1 (inB_iff.1 hq)).2, ← hn]
  · cases h
/-- What the whole of memory comes to in a call, as an entry. -/
def allE (o : Oper) (T : Tm) (H H' : Hp) (c c' : Nat) (v : Value) (all : List Oper) : Ent where
  dst := o.dst
  xs := xsOf all T o
  rd := fun n => hget n H
  v := v
  up := fun n => match hget n H, hget n H' with
    | none, none => none
    | _, x => some x
  lo := c
  hi := c'
theorem lt_to [Sy] {c c' : Nat} (h : c ≤ c') : lt c' = fun j => lt c j || inR c c' j := by
  have := lt_add c (c' - c)
  rwa [show c + (c' - c) = c' by omega] at this
theorem allE_pre [Sy] {n G : Nat} {o : Oper} {T : Tm} {H H' : Hp} {c c' : Nat} {v : Value} {as : List Value} (ho : OperOk G n all o) (hT : okT (lt c) T = true) (_hk : HpOk c H) (hcame : Came G as H c v H' c') :
    Pre (allE o T H H' c c' v all) (stOf n T H c) ∧ (allE o T H H' c c' v all).app (stOf n T H c) = stOf n (putT T o.dst v) H' c' ∧ okT (lt c') (putT T o.dst v) = true := by
  have hdm : (allE o T H H' c c' v all).dm (lt c) = lt c' := (lt_to hcame.le).symm
  refine ⟨⟨?_, fun m u hm => hm, ?_, ?_, ?_, ?_⟩, ?_, ?_⟩
  · intro t x ht
    simp only [allE, xsOf] at ht
    cases hq : inB t (needs all o) with
    | false => rw [hq] at ht; cases ht
    | true =>
      rw [hq] at ht
      injection ht with ht; subst ht
      simp [stOf, ho.ltn t (inB_iff.1 hq)]
  · intro k hk'
    have h1 : c ≤ k := (inR_iff.1 hk').1
    simp only [stOf, lt]
    cases hq : Nat.blt k c
    · rfl
    · have := blt_true hq; omega
  · intro m u hm
    simp only [allE] at hm ⊢
    cases h0 : hget m H with
    | some x => exact .inl ⟨x, rfl⟩
    | none =>
      cases h1 : hget m H' with
      | none => rw [h0, h1] at hm; cases hm
      | some y => exact .inr (inR_iff.2 ⟨hcame.new m h0 (by rw [h1]; simp), (hcame.hp m y h1).1⟩)
  · show okV ((allE o T H H' c c' v all).dm (lt c)) v = true
    rw [hdm]; exact hcame.v
  · intro m u hm
    show u.ok ((allE o T H H' c c' v all).dm (lt c)) = true
    rw [hdm]
    simp only [allE] at hm
    cases h1 : hget m H' with
    | none => cases h0 : hget m H <;> rw [h0, h1] at hm <;> simp at hm
    | some y =>
      have : u = y := by cases h0 : hget m H <;> rw [h0, h1] at hm <;> simp at hm <;> exact hm.symm
      subst this
      exact (hcame.hp m u h1).2
  · unfold Ent.app stOf
    simp only
    congr 1
    · exact put_slots o.dst ho.dst
    · funext m
      simp only [allE]
      cases h0 : hget m H <;> cases h1 : hget m H' <;> rfl
  · cases hd : o.dst with
    | none => exact okT_mono (lt_mono hcame.le) _ hT
    | some d =>
      simp only [putT, okT, Bool.and_eq_true]
      exact ⟨hcame.v, okT_mono (lt_mono hcame.le) _ hT⟩
structure Goes (H : Hp) (c : Nat) (T' : Tm) (H' : Hp) (c' : Nat) : Prop where
  le : c ≤ c'
  tm : okT (lt c') T' = true
  hp : HpOk c' H'
  new : ∀ n, hget n H = none → hget n H' ≠ none → c ≤ n
theorem Goes.trans {H H1 H2 : Hp} {c c1 c2 : Nat} {T1 T2 : Tm} (h : Goes H c T1 H1 c1) (h' : Goes H1 c1 T2 H2 c2) : Goes H c T2 H2 c2 := by
  refine ⟨Nat.le_trans h.le h'.le, h'.tm, h'.hp, fun n h0 h2 => ?_⟩
  cases h1 : hget n H1 with
  | none => have := h'.new n h1 h2; have := h.le; omega
  | some o => exact h.new n h0 (by rw [h1]; simp)
theorem entX_goes [Sy] {n G : Nat} {T : Tm} {H : Hp} {c : Nat} {e : En} {o : Oper} (ho : OperOk G n all o) (hT : okT (lt c) T = true) (hH : HpOk c H) (hb : Bound H c e) : Goes H c (putT T o.dst e.v) (hsets e.up (hdels e.del H)) (c + e.k) := by
  obtain ⟨_, _, h3, h4⟩ := entX_pre ho hT hH hb
  refine ⟨by omega, h3, h4, fun m h0 h1 => ?_⟩
  rw [hget_sets, hget_dels] at h1
  cases hq : hget m e.up with
  | some w =>
    rcases (hb.up m w hq).2 with q | ⟨_, x, hx⟩
    · exact (inR_iff.1 q).1
    · rw [h0] at hx; cases hx
  | none =>
    rw [hq, h0] at h1
    cases hq2 : inB m e.del <;> simp [hq2] at h1
theorem bound_pure {H : Hp} {c : Nat} {v : Value} (h : okV (lt c) v = true) : Bound H c (pureE v) := ⟨h, fun n o hn => by simp [pureE, hget] at hn, fun n hn => by simp [pureE] at hn⟩
theorem seq_plan [Sy] (hE : E.Ok) (hc : CallOk E call) (hr : RndOk E rnd) (hP : C.P = E.P) (hEG : C.G = E.G) : ∀ (l : List Oper) (T : Tm) (H : Hp) (c : Nat) (T' : Tm) (H' : Hp) (c' : Nat), (∀ o, o ∈ l → OperOk C.G C.n all o) → seqOps E call rnd all l T H c = some (T', H', c') →
    okT (lt c) T = true → HpOk c H → C.G ≤ c → ∃ es, Plan ro C all.toArray l (stOf C.n T H c) es (stOf C.n T' H' c') ∧ Goes H c T' H' c'
  | [], T, H, c, T', H', c', _, h, hT, hH, _ => by
    simp only [seqOps, Option.some.injEq, Prod.mk.injEq] at h
    obtain ⟨rfl, rfl, rfl⟩ := h
    exact ⟨[], .nil, Nat.le_refl _, hT, hH, fun n h0 h1 => absurd h0 h1⟩
  | o :: r, T, H, c, T', H', c', hok, h, hT, hH, hG => by
    have ho := hok o (by simp)
    have hok' : ∀ x, x ∈ r → OperOk C.G C.n all x := fun x hx => hok x (by simp [hx])
    unfold seqOps at h
    have loc : ∀ e : En, Sound ro C all.toArray o (entX all T o H c e) → Bound H c e → seqOps E call rnd all r (putT T o.dst e.v) (hsets e.up (hdels e.del H)) (c + e.k) = some (T', H', c') → ∃ es, Plan ro C all.toArray (o :: r) (stOf C.n T H c) es (stOf C.n T' H' c') ∧ Goes H c T' H' c' := by
      intro e hs hb hrest
      obtain ⟨hpre, happ, h3, h4⟩ := entX_pre ho hT hH hb
      obtain ⟨es, hplan, hgoes⟩ := seq_plan hE hc hr hP hEG r _ _ _ T' H' c' hok' hrest h3 h4 (by omega)
      exact ⟨_, .cons hs hpre (by rw [happ]; exact hplan), (entX_goes ho hT hH hb).trans hgoes⟩
    cases hw : wantedT all T o with
    | false =>
      rw [hw] at h
      exact loc (pureE undef) (sound_skip ho hw) (bound_pure rfl) h
    | true =>
      rw [hw] at h
      simp only [Bool.not_true, cond_false] at h
      split at h
      · rename_i td htd
        split at h
        · rename_i v hv
          obtain ⟨hb, h⟩ := bif_else h
          exact loc (pureE v) (sound_pur hE hP ho hw htd hv) (bound_pure hb) h
        split at h
        · rename_i e he
          obtain ⟨hb, h⟩ := bif_else h
          exact loc e (sound_ext hE hP ho hw htd he hH) (bound_of hb) h
        · split at h
          · rename_i v H1 c1 hd
            have hargs := todo_args (n := C.n) ho htd hT hG
            obtain ⟨as, hcame⟩ := todo_came hc hr hd (hEG ▸ hG) hargs hH
            have hcame' : Came C.G as H c v H1 c1 := ⟨hcame.le, hcame.v, hcame.hp, hcame.new⟩
            obtain ⟨hpre, happ, h3⟩ := allE_pre (all := all) ho hT hH hcame'
            have hs : Sound ro C all.toArray o (allE o T H H1 c c1 v all) := by
              refine sound_far hc hr hP hEG ho hw htd hd hT hH hG rfl rfl rfl rfl rfl (fun n => rfl) ?_ ?_
              · intro n hn
                simp only [allE] at hn
                cases h0 : hget n H <;> cases h1 : hget n H1 <;> rw [h0, h1] at hn <;> simp at hn ⊢
              · intro n u hn
                simp only [allE] at hn
                cases h0 : hget n H <;> cases h1 : hget n H1 <;> rw [h0, h1] at hn <;> simp at hn ⊢ <;> exact hn.symm
            obtain ⟨es, hplan, hgoes⟩ := seq_plan hE hc hr hP hEG r _ _ _ T' H' c' hok' h h3 hcame.hp (Nat.le_trans hG hcame.le)
            exact ⟨_, .cons hs hpre (by rw [happ]; exact hplan), Goes.trans ⟨hcame.le, h3, hcame.hp, hcame.new⟩ hgoes⟩
          · cases h
      · split at h
        · rename_i e he
          obtain ⟨hb, h⟩ := bif_else h
          exact loc e (sound_op ho hw (by rw [hP, hEG]; exact he) hT hH hG) (bound_of hb) h
        · split at h
          · rename_i v hv
            obtain ⟨hb, h⟩ := bif_else h
            exact loc (pureE v) (sound_sym hE hP ho hw hv) (bound_pure hb) h
          · cases h
/-- How an entry of the walk belongs to what the executor noted. -/
structure Fits (all : List Oper) (o : Oper) (p : Nat × En) (e : Ent) : Prop where
  dst : e.dst = o.dst
  xs : ∀ t, t ∉ needs all o → e.xs t = none
  rd : ∀ n, e.rd n ≠ none → n ∈ p.2.rd
  v : e.v = p.2.v
  up : ∀ n, e.up n ≠ none → n ∈ keys p.2.up ∨ n ∈ p.2.del
  upo : ∀ n u, e.up n = some (some u) → (n, u) ∈ p.2.up
  upr : ∀ n, e.up n ≠ none → inR e.lo e.hi n = true ∨ n ∈ p.2.rd
  lo : e.lo = p.1
  hi : e.hi = p.1 + p.2.k
  ok : okV (lt (p.1 + p.2.k)) p.2.v = true
theorem fits_x [Sy] {o : Oper} {T : Tm} {H : Hp} {c : Nat} {e : En} (hb : Bound H c e) : Fits all o (c, e) (entX all T o H c e) := by
  refine ⟨rfl, fun t ht => ?_, fun n hn => ?_, rfl, fun n hn => ?_, fun n u hn => ?_, fun n hn => ?_, rfl, rfl, hb.v⟩
  · simp only [entX, entOf, xsOf]
    cases hq : inB t (needs all o) with
    | false => rfl
    | true => exact absurd (inB_iff.1 hq) ht
  · simp only [entX, entOf] at hn
    cases hq : inB n e.rd with
    | false => rw [hq] at hn; exact absurd rfl hn
    | true => exact inB_iff.1 hq
  · simp only [entX, entOf] at hn
    cases hq : hget n e.up with
    | some w => exact .inl (mem_keys.2 ⟨w, hq⟩)
    | none =>
      rw [hq] at hn
      simp only at hn
      cases hq2 : inB n e.del with
      | false => rw [hq2] at hn; exact absurd rfl hn
      | true => exact .inr (inB_iff.1 hq2)
  · simp only [entX, entOf] at hn
    cases hq : hget n e.up with
    | some w =>
      rw [hq] at hn
      injection hn with hn
      injection hn with hn
      subst hn
      exact hup_mem hq
    | none =>
      rw [hq] at hn
      simp only at hn
      cases hq2 : inB n e.del <;> rw [hq2] at hn <;> cases hn
  · simp only [entX, entOf] at hn ⊢
    cases hq : hget n e.up with
    | some w =>
      rcases (hb.up n w hq).2 with q | q
      · exact .inl q
      · exact .inr q.1
    | none =>
      rw [hq] at hn
      simp only at hn
      cases hq2 : inB n e.del with
      | false => rw [hq2] at hn; exact absurd rfl hn
      | true => exact .inr (hb.del n (inB_iff.1 hq2)).1
inductive Fit (all : List Oper) : List Oper → List (Nat × En) → List Ent → Prop
  | nil : Fit all [] [] []
  | cons {o : Oper} {p : Nat × En} {e : Ent} {os : List Oper} {ps : List (Nat × En)} {es : List Ent} (h : Fits all o p e) (hr : Fit all os ps es) : Fit all (o :: os) (p :: ps) (e :: es)
theorem Fit.at {os : List Oper} {ps : List (Nat × En)} {es : List Ent} (h : Fit all os ps es) : ∀ (j : Nat) (o : Oper) (e : Ent), os[j]? = some o → es[j]? = some e → ∃ p, ps[j]? = some p ∧ Fits all o p e := by
  induction h with
  | nil => intro j o e ho; simp at ho
  | cons h hr ih =>
    intro j o e ho he
    cases j with
    | zero =>
      simp at ho he
      subst ho; subst he
      exact ⟨_, rfl, h⟩
    | succ j => exact ih j o e (by simpa using ho) (by simpa using he)
theorem Fit.len {os : List Oper} {ps : List (Nat × En)} {es : List Ent} (h : Fit all os ps es) : ps.length = os.length ∧ es.length = os.length := by
  induction h with
  | nil => exact ⟨rfl, rfl⟩
  | cons h hr ih => simp [ih]
theorem draw_plan [Sy] (hE : E.Ok) (hc : CallOk E call) (hr : RndOk E rnd) (hP : C.P = E.P) (hEG : C.G = E.G) : ∀ (l : List Oper) (T : Tm) (H : Hp) (c : Nat) (ps : List (Nat × En)) (T' : Tm) (H' : Hp) (c' : Nat) (ps' : List (Nat × En)), (∀ o, o ∈ l → OperOk C.G C.n all o) → drawOps E call rnd all l T H c ps = some (T', H', c', ps') →
    okT (lt c) T = true → HpOk c H → C.G ≤ c → ∃ es qs, Plan ro C all.toArray l (stOf C.n T H c) es (stOf C.n T' H' c') ∧ Goes H c T' H' c' ∧ ps' = ps ++ qs ∧ Fit all l qs es
  | [], T, H, c, ps, T', H', c', ps', _, h, hT, hH, _ => by
    simp only [drawOps, Option.some.injEq, Prod.mk.injEq] at h
    obtain ⟨rfl, rfl, rfl, rfl⟩ := h
    exact ⟨[], [], .nil, ⟨Nat.le_refl _, hT, hH, fun n h0 h1 => absurd h0 h1⟩, by simp, .nil⟩
  | o :: r, T, H, c, ps, T', H', c', ps', hok, h, hT, hH, hG => by
    have ho := hok o (by simp)
    have hok' : ∀ x, x ∈ r → OperOk C.G C.n all x := fun x hx => hok x (by simp [hx])
    unfold drawOps at h
    have loc : ∀ e : En, Sound ro C all.toArray o (entX all T o H c e) → Bound H c e → drawOps E call rnd all r (putT T o.dst e.v) (hsets e.up (hdels e.del H)) (c + e.k) (ps ++ [(c, e)]) = some (T', H', c', ps') →
        ∃ es qs, Plan ro C all.toArray (o :: r) (stOf C.n T H c) es (stOf C.n T' H' c') ∧ Goes H c T' H' c' ∧ ps' = ps ++ qs ∧ Fit all (o :: r) qs es := by
      intro e hs hb hrest
      obtain ⟨hpre, happ, h3, h4⟩ := entX_pre ho hT hH hb
      obtain ⟨es, qs, hplan, hgoes, hps, hfit⟩ := draw_plan hE hc hr hP hEG r _ _ _ _ T' H' c' ps' hok' hrest h3 h4 (by omega)
      exact ⟨_, (c, e) :: qs, .cons hs hpre (by rw [happ]; exact hplan), (entX_goes ho hT hH hb).trans hgoes, by rw [hps]; simp, .cons (fits_x hb) hfit⟩
    cases hw : wantedT all T o with
    | false =>
      rw [hw] at h
      exact loc (pureE undef) (sound_skip ho hw) (bound_pure rfl) h
    | true =>
      rw [hw] at h
      simp only [Bool.not_true, cond_false] at h
      split at h
      · rename_i e he
        obtain ⟨hb, h⟩ := bif_else h
        refine loc e ?_ (bound_of hb) h
        split at he
        · rename_i td htd
          split at he
          · rename_i v hv
            injection he with he; subst he
            exact sound_pur hE hP ho hw htd hv
          split at he
          · rename_i e' he'
            injection he with he; subst he
            exact sound_ext hE hP ho hw htd he' hH
          · exact far_sound hc hr hP hEG ho hw htd he hT hH hG
        · split at he
          · rename_i e' he'
            injection he with he; subst he
            exact sound_op ho hw (by rw [hP, hEG]; exact he') hT hH hG
          · obtain ⟨v, hv, rfl⟩ := Option.map_eq_some_iff.1 he
            exact sound_sym hE hP ho hw hv
      · cases h
theorem half_of [Sy] {o q : Oper} {p p' : Nat × En} {e f : Ent} (he : Fits all o p e) (hf : Fits all q p' f) (hs : ∀ d, o.dst = some d → d ∉ needs all q) (h : halfB p p' = true) : Half e f := by
  simp only [halfB, Bool.and_eq_true] at h
  obtain ⟨h1, h2, h3, h4, h5⟩ := h
  have hnk : ∀ n, n ∈ keys p'.2.up → inR e.lo e.hi n = false := by
    intro n hn
    obtain ⟨u, hu⟩ := mem_keys.1 hn
    have := List.all_eq_true.1 h4 _ (hup_mem hu)
    simp only [Bool.and_eq_true, Bool.not_eq_true'] at this
    rw [he.lo, he.hi]
    exact this.2
  refine ⟨fun d hd => hf.xs d (hs d (by rw [← he.dst]; exact hd)), fun n hn => ?_, ?_, fun n u hu => ?_, fun n hn => ?_⟩
  · cases hq : f.rd n with
    | none => rfl
    | some x =>
      exfalso
      have hm := hf.rd n (by rw [hq]; simp)
      rcases he.up n hn with q' | q'
      · have := h1
        rw [List.all_eq_true] at this
        have := this n q'
        simp only [Bool.not_eq_true'] at this
        exact inB_of this hm
      · have := List.all_eq_true.1 h2 n q'
        simp only [Bool.not_eq_true'] at this
        exact inB_of this hm
  · rw [hf.v, he.lo, he.hi]; exact h3
  · have := List.all_eq_true.1 h4 _ (hf.upo n u hu)
    simp only [Bool.and_eq_true] at this
    rw [he.lo, he.hi]
    exact this.1
  · rcases hf.up n hn with q' | q'
    · exact hnk n q'
    · have := List.all_eq_true.1 h5 n q'
      simp only [Bool.not_eq_true'] at this
      rw [he.lo, he.hi]
      exact this
theorem edge_sym {o : Oper} {i : Nat} : edge o i = true → edge o i = true := id
theorem slot_of [Sy] {i j : Nat} {o q : Oper} (ho : all[i]? = some o) (hq : all[j]? = some q) (h : slotB all i j = true) : edge q i = true ∨ ((∀ d, o.dst = some d → d ∉ needs all q) ∧ (∀ d, q.dst = some d → d ∉ needs all o) ∧ ∀ d, o.dst = some d → q.dst ≠ some d) := by
  unfold slotB at h
  rw [ho, hq] at h
  simp only [Bool.or_eq_true, Bool.and_eq_true, Bool.not_eq_true'] at h
  rcases h with h | ⟨h1, h2, h3⟩
  · exact .inl h
  · right
    refine ⟨fun d hd => ?_, fun d hd => ?_, fun d hd hd' => ?_⟩
    · rw [hd] at h1; exact inB_of h1
    · rw [hd] at h2; exact inB_of h2
    · rw [hd, hd'] at h3
      simp [dstEq] at h3
theorem plain_of {p : Nat × En} (h : plainE p.2 = true) : p.2.up = [] ∧ p.2.del = [] ∧ p.2.k = 0 := by
  unfold plainE at h
  split at h
  · rename_i h1 h2 h3
    exact ⟨h1, h2, h3⟩
  · cases h
theorem half_plain [Sy] {o q : Oper} {p p' : Nat × En} {e f : Ent} (he : Fits all o p e) (hf : Fits all q p' f) (hs : ∀ d, o.dst = some d → d ∉ needs all q) (h : plainE p.2 = true) (h' : plainE p'.2 = true) : Half e f := by
  obtain ⟨h1, h2, h3⟩ := plain_of h
  obtain ⟨g1, g2, g3⟩ := plain_of h'
  have hin : ∀ n, inR e.lo e.hi n = false := by
    intro n
    rw [he.lo, he.hi, h3]
    cases hb : inR p.1 (p.1 + 0) n with
    | false => rfl
    | true => have := inR_iff.1 hb; omega
  have hup : ∀ n, e.up n ≠ none → False := by
    intro n hn
    rcases he.up n hn with q' | q'
    · rw [h1] at q'; simp [keys] at q'
    · rw [h2] at q'; simp at q'
  have hfup : ∀ n, f.up n ≠ none → False := by
    intro n hn
    rcases hf.up n hn with q' | q'
    · rw [g1] at q'; simp [keys] at q'
    · rw [g2] at q'; simp at q'
  refine ⟨fun d hd => hf.xs d (hs d (by rw [← he.dst]; exact hd)), fun n hn => (hup n hn).elim, ?_, fun n u hu => (hfup n (by rw [hu]; simp)).elim, fun n _ => hin n⟩
  rw [hf.v]
  refine okV_mono ?_ _ hf.ok
  intro k _
  simp [hin k]
theorem chk_of [Sy] {ps : List (Nat × En)} {es : List Ent} (hfit : Fit all all ps es) (hst : ((List.range all.length).all (backB all) && (List.range all.length).all fun j => (List.range j).all fun i => slotB all i j) = true) (hc : chkB all ps = true) : Chk all es := by
  simp only [Bool.and_eq_true] at hst
  obtain ⟨hl1, hl2⟩ := hfit.len
  refine ⟨fun j o ho => ?_, fun i j q e f hij hq he hf => ?_⟩
  · have hj : j < all.length := (List.getElem?_eq_some_iff.1 ho).1
    have := List.all_eq_true.1 hst.1 j (List.mem_range.2 hj)
    unfold backB at this
    rw [ho] at this
    simpa using this
  · have hj : j < all.length := (List.getElem?_eq_some_iff.1 hq).1
    obtain ⟨o, ho⟩ : ∃ o, all[i]? = some o := ⟨all[i]'(by omega), by simp [show i < all.length by omega]⟩
    have hs := List.all_eq_true.1 (List.all_eq_true.1 hst.2 j (List.mem_range.2 hj)) i (List.mem_range.2 hij)
    rcases slot_of ho hq hs with h | ⟨s1, s2, s3⟩
    · exact .inl h
    · obtain ⟨p, hp, hpe⟩ := hfit.at i o e ho he
      obtain ⟨p', hp', hpf⟩ := hfit.at j q f hq hf
      have hi := List.all_eq_true.1 (List.all_eq_true.1 hc j (List.mem_range.2 (by omega))) i (List.mem_range.2 hij)
      unfold indB at hi
      rw [hq, hp, hp'] at hi
      simp only [Bool.or_eq_true, Bool.and_eq_true] at hi
      rcases hi with ⟨g1, g2⟩ | h | ⟨g0, g1, g2⟩
      · right
        have hef := half_plain hpe hpf s1 g1 g2
        have hfe := half_plain hpf hpe s2 g2 g1
        refine ⟨hef, hfe, fun d hd q' => s3 d (by rw [← hpe.dst]; exact hd) (by rw [← hpf.dst]; exact q'), fun n hn => ?_, fun k hk => ?_⟩
        · exfalso
          obtain ⟨x1, x2, _⟩ := plain_of g1
          rcases hpe.up n hn with q' | q'
          · rw [x1] at q'; simp [keys] at q'
          · rw [x2] at q'; simp at q'
        · obtain ⟨_, _, x3⟩ := plain_of g1
          rw [hpe.lo, hpe.hi, x3] at hk
          have := inR_iff.1 hk
          omega
      · exact .inl h
      · right
        have hef := half_of hpe hpf s1 g1
        have hfe := half_of hpf hpe s2 g2
        have g0 := ble_true g0
        refine ⟨hef, hfe, fun d hd q' => s3 d (by rw [← hpe.dst]; exact hd) (by rw [← hpf.dst]; exact q'), fun n hn => ?_, fun k hk => ?_⟩
        · cases hfn : f.up n with
          | none => rfl
          | some x =>
            exfalso
            have hn' : f.up n ≠ none := by rw [hfn]; simp
            rcases hpf.upr n hn' with r1 | r1
            · have := hfe.nk n hn
              rw [r1] at this; cases this
            · rcases hpe.upr n hn with r2 | r2
              · have := hef.nk n hn'
                rw [r2] at this; cases this
              · -- both were there: e turns n, f looks at it
                have hrd := hef.up n hn
                rcases hpf.up n hn' with u1 | u1
                · rcases hpe.up n hn with v1 | v1
                  · have := g1
                    simp only [halfB, Bool.and_eq_true] at this
                    have := List.all_eq_true.1 this.1 n v1
                    simp only [Bool.not_eq_true'] at this
                    exact inB_of this r1
                  · have := g1
                    simp only [halfB, Bool.and_eq_true] at this
                    have := List.all_eq_true.1 this.2.1 n v1
                    simp only [Bool.not_eq_true'] at this
                    exact inB_of this r1
                · rcases hpe.up n hn with v1 | v1
                  · have := g1
                    simp only [halfB, Bool.and_eq_true] at this
                    have := List.all_eq_true.1 this.1 n v1
                    simp only [Bool.not_eq_true'] at this
                    exact inB_of this r1
                  · have := g1
                    simp only [halfB, Bool.and_eq_true] at this
                    have := List.all_eq_true.1 this.2.1 n v1
                    simp only [Bool.not_eq_true'] at this
                    exact inB_of this r1
        · rw [hpe.lo, hpe.hi] at hk
          rw [hpf.lo, hpf.hi]
          have h1 := inR_iff.1 hk
          cases hb : inR p'.1 (p'.1 + p'.2.k) k with
          | false => rfl
          | true => have := inR_iff.1 hb; omega
end
end Go.Xe
