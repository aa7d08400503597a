/- A reckoner of closed runs, its thirteenth part: code. No program in it. -/
import Derived.Test.YtgpgppjfjeiceaaDoorX12
namespace Go.Xe
open Go.RowKit

section
variable {F : Fence} {n : Nat} {P : Program} {b : Frame} {a : Act} {k : List Item} {cs : List Frame} {w : World} {Q : Exit → Act → World → Prop}
theorem stepR_scope {c : Code} : Go.step P (lone (b.atR a (.code (.scope c) :: k)) cs w) = .next (lone (b.atR a (.code c :: .inScope c :: k)) cs w) :=
  step_lone_go (by simp [stepG, stepG.exec, Frame.atR])
theorem stepR_inScope {c : Code} : Go.step P (lone (b.atR a (.inScope c :: k)) cs w) = .next (lone (b.atR a k) cs w) :=
  step_lone_go (by simp [stepG, stepG.exec, Frame.atR])
def noGoto (Q : Exit → Act → World → Prop) : Exit → Act → World → Prop
  | .goto _, _, _ => False
  | e, a, w => Q e a w
theorem wpIn_scope [Sy] {c : Code} (h : c.wpIn F n P (noGoto Q) a w) : (Code.scope c).wpIn F n P Q a w := by
  intro b k cs hro hb hr
  have h0 : (lone (b.atR a (.code (.scope c) :: k)) cs w).fenced P F := fenced_calm hb hr rfl
  obtain ⟨e, a₁, w₁, hq, harr⟩ := h b (.inScope c :: k) cs hro hb hr
  cases e with
  | normal => exact ⟨.normal, a₁, w₁, hq, .head h0 stepR_scope (StepsIn.trans harr (.one (fenced_calm hb hr rfl) stepR_inScope))⟩
  | exit id =>
    have hx : exitTo id (.inScope c :: k) = exitTo id k := by simp [exitTo]
    exact ⟨_, a₁, w₁, hq, fun k' hk => .head h0 stepR_scope (harr.1 k' (by rw [hx]; exact hk)),
      fun hr' hk => let ⟨k₁, h1, h2⟩ := harr.2 hr' (by rw [hx]; exact hk); ⟨k₁, h1, .head h0 stepR_scope h2⟩⟩
  | goto l => exact hq.elim
  | ret => exact ⟨_, a₁, w₁, hq, .of_steps (.one h0 stepR_scope) harr⟩
  | panic ch => exact ⟨_, a₁, w₁, hq, .of_steps (.one h0 stepR_scope) harr⟩
  | outgrown => exact ⟨_, a₁, w₁, hq, .of_steps (.one h0 stepR_scope) harr⟩
end

def markD (ν : Val) (d : Nat) : Deferred := { target := .collected (ν d).b, args := #[] }
def marks (ν : Val) (D : List Nat) : List Deferred := D.map (markD ν)
theorem marks_cong {ν ν' : Val} {c : Nat} {D : List Nat} (hD : ∀ d, d ∈ D → d < c) (h : ∀ k, lt c k = true → ν' k = ν k) : marks ν' D = marks ν D := by
  unfold marks
  apply List.map_congr_left
  intro d hd
  unfold markD
  rw [h d (by simpa [lt] using hD d hd)]
def cxOf (E : Env) (n : Nat) (S : Nat → Prop) (ws : World) (ds : List Deferred) : Cx := ⟨E.P, n, E.G, S, ws, ds⟩
def At [Sy] (E : Env) (n : Nat) (S : Nat → Prop) (ws : World) (m : Ms) (ν : Val) (a : Act) (w : World) : Prop := Sat (cxOf E n S ws (marks ν m.D)) (stOf n m.T m.H m.c) ν a w
structure MsOk (G : Nat) (m : Ms) : Prop where
  tm : okT (lt m.c) m.T = true
  hp : HpOk m.c m.H
  g : G ≤ m.c
  d : ∀ d, d ∈ m.D → d < m.c
structure MsGo (G : Nat) (m m' : Ms) : Prop where
  ok : MsOk G m'
  le : m.c ≤ m'.c
  new : ∀ n, hget n m.H = none → hget n m'.H ≠ none → m.c ≤ n
theorem MsGo.trans {G : Nat} {m m1 m2 : Ms} (h : MsGo G m m1) (h' : MsGo G m1 m2) : MsGo G m m2 := by
  refine ⟨h'.ok, Nat.le_trans h.le h'.le, fun n h0 h2 => ?_⟩
  cases h1 : hget n m1.H with
  | none => have := h'.new n h1 h2; have := h.le; omega
  | some o => exact h.new n h0 (by rw [h1]; simp)
theorem MsGo.refl {G : Nat} {m : Ms} (h : MsOk G m) : MsGo G m m := ⟨h, Nat.le_refl _, fun _n h0 h1 => absurd h0 h1⟩
def toExit : Xt → Exit
  | .normal => .normal
  | .exit id => .exit id
  | .goto l => .goto l
  | .ret => .ret
def roOf (ν : Val) (ro : Option Nat) : Option Nat := ro.map fun l => (ν l).b
def Same (c : Nat) (ν ν' : Val) : Prop := ∀ k, lt c k = true → ν' k = ν k
theorem Same.trans [Sy] {c c' : Nat} {ν ν1 ν2 : Val} (h : Same c ν ν1) (h' : Same c' ν1 ν2) (hc : c ≤ c') : Same c ν ν2 := fun k hk => (h' k (lt_mono hc k hk)).trans (h k hk)
theorem Same.refl (c : Nat) (ν : Val) : Same c ν ν := fun _ _ => rfl
theorem roOf_same {c : Nat} {ν ν' : Val} {ro : Option Nat} (hro : ∀ l, ro = some l → l < c) (h : Same c ν ν') : roOf ν' ro = roOf ν ro := by
  cases ro with
  | none => rfl
  | some l =>
    simp only [roOf, Option.map_some]
    rw [h l (by simpa [lt] using hro l rfl)]
/-- What is shown of code. -/
def CodeGoes [Sy] (E : Env) (n : Nat) (ro : Option Nat) (cd : Code) (m : Ms) (x : Xt) (m' : Ms) : Prop :=
  MsGo E.G m m' ∧ ∀ (S : Nat → Prop) (ws : World) ν a w (Q : Exit → Act → World → Prop), At E n S ws m ν a w → (∀ ν' a' w', Same m.c ν ν' → At E n S ws m' ν' a' w' → Q (toExit x) a' w') → W (roOf ν ro) E.P cd Q a w
theorem at_eval [Sy] {E : Env} {n : Nat} {S : Nat → Prop} {ws : World} {m : Ms} {ν : Val} {a : Act} {w : World} {x : Operand} (h : At E n S ws m ν a w) (hx : okO E.G n x = true) : a.eval x = rn ν (evT m.T x) := by
  refine eval_evT hx h.glob fun t ht => ?_
  subst ht
  have htn := blt_true hx
  exact h.slot t _ (by simp [stOf, htn])
section
variable {E : Env} {call : Orc} {rnd : Rnd} {n : Nat} {ro : Option Nat}
theorem region_goes [Sy] (hE : E.Ok) (hmix : E.P.follows .mixedOrders = true) (hc : CallOk E call) (hr : RndOk E rnd) {id : Nat} {ops : Array Oper} {draw : Bool} {m m' : Ms} (hok : okReg E.G n ops.toList draw = true) (h : regionS E call rnd ops.toList draw m = some m') (hm : MsOk E.G m) (_hro : ∀ l, ro = some l → l < m.c) :
    CodeGoes E n ro (.region id ops draw) m .normal m' := by
  obtain ⟨l⟩ := ops
  simp only [okReg, Bool.and_eq_true] at hok
  have hops : ∀ o, o ∈ l → OperOk E.G n l o := fun o ho => operOk (List.all_eq_true.1 hok.1 o ho)
  cases draw with
  | false =>
    simp only [regionS] at h
    split at h
    · rename_i T H c hs
      injection h with h; subst h
      have plan : ∀ S ws ds ro, ∃ es, Plan ro (cxOf E n S ws ds) l.toArray l (stOf n m.T m.H m.c) es (stOf n T H c) ∧ Goes m.H m.c T H c := fun S ws ds ro =>
        seq_plan (C := cxOf E n S ws ds) (ro := ro) hE hc hr rfl rfl l m.T m.H m.c T H c hops hs hm.tm hm.hp hm.g
      obtain ⟨_, _, hgo⟩ := plan (fun _ => True) default [] none
      refine ⟨⟨⟨hgo.tm, hgo.hp, Nat.le_trans hm.g hgo.le, fun d hd => Nat.lt_of_lt_of_le (hm.d d hd) hgo.le⟩, hgo.le, hgo.new⟩, ?_⟩
      intro S ws ν a w Q hA hQ
      obtain ⟨es, hp, _⟩ := plan S ws (marks ν m.D) (roOf ν ro)
      refine region_text hA hp fun ν' a' w' hν hS => hQ ν' a' w' hν ?_
      show Sat (cxOf E n S ws (marks ν' m.D)) _ _ _ _
      rw [marks_cong hm.d hν]
      exact hS
    · cases h
  | true =>
    simp only [regionS] at h
    split at h
    · rename_i T H c ps hs
      obtain ⟨hchk, h⟩ := bif_some h
      subst h
      have plan : ∀ S ws ds ro, ∃ es qs, Plan ro (cxOf E n S ws ds) l.toArray l (stOf n m.T m.H m.c) es (stOf n T H c) ∧ Goes m.H m.c T H c ∧ ps = [] ++ qs ∧ Fit l l qs es := fun S ws ds ro =>
        draw_plan (C := cxOf E n S ws ds) (ro := ro) hE hc hr rfl rfl l m.T m.H m.c [] T H c ps hops hs hm.tm hm.hp hm.g
      obtain ⟨_, _, _, hgo, _, _⟩ := plan (fun _ => True) default [] none
      refine ⟨⟨⟨hgo.tm, hgo.hp, Nat.le_trans hm.g hgo.le, fun d hd => Nat.lt_of_lt_of_le (hm.d d hd) hgo.le⟩, hgo.le, hgo.new⟩, ?_⟩
      intro S ws ν a w Q hA hQ
      obtain ⟨es, qs, hp, _, hq, hfit⟩ := plan S ws (marks ν m.D) (roOf ν ro)
      rw [List.nil_append] at hq
      subst hq
      have hst : ((List.range l.length).all (backB l) && (List.range l.length).all fun j => (List.range j).all fun i => slotB l i j) = true := by
        have := hok.2
        simpa using this
      refine region_draw hmix hA hp (chk_of hfit hst hchk) fun ν' a' w' hν hS => hQ ν' a' w' hν ?_
      show Sat (cxOf E n S ws (marks ν' m.D)) _ _ _ _
      rw [marks_cong hm.d hν]
      exact hS
    · cases h
theorem loop_goes [Sy] {c : Code} {f : Ms → Option (Xt × Ms)} (hf : ∀ m x m', f m = some (x, m') → MsOk E.G m → (∀ l, ro = some l → l < m.c) → CodeGoes E n ro c m x m') :
    ∀ (k : Nat) (m : Ms) (x : Xt) (m' : Ms), loopN f k m = some (x, m') → MsOk E.G m → (∀ l, ro = some l → l < m.c) → MsGo E.G m m' ∧ x ≠ .normal
  | 0, m, x, m', h, _, _ => by cases h
  | k + 1, m, x, m', h, hm, hro => by
    unfold loopN at h
    split at h
    · rename_i m1 h1
      have g := (hf m _ m1 h1 hm hro).1
      have := loop_goes hf k m1 x m' h g.ok (fun l hl => Nat.lt_of_lt_of_le (hro l hl) g.le)
      exact ⟨g.trans this.1, this.2⟩
    · rename_i hne
      refine ⟨(hf m x m' h hm hro).1, ?_⟩
      rintro rfl
      exact hne m' h
theorem loop_w [Sy] {c : Code} {f : Ms → Option (Xt × Ms)} (hf : ∀ m x m', f m = some (x, m') → MsOk E.G m → (∀ l, ro = some l → l < m.c) → CodeGoes E n ro c m x m')
    {k : Nat} {m : Ms} {x : Xt} {m' : Ms} (h : loopN f k m = some (x, m')) (hm : MsOk E.G m) (hro : ∀ l, ro = some l → l < m.c) : CodeGoes E n ro (.loop c) m x m' := by
  have hg := loop_goes hf k m x m' h hm hro
  refine ⟨hg.1, ?_⟩
  intro S ws ν a w Q hA hQ
  let I : Nat → Act → World → Prop := fun j a1 w1 => ∃ m1 ν1, loopN f j m1 = some (x, m') ∧ MsOk E.G m1 ∧ m.c ≤ m1.c ∧ Same m.c ν ν1 ∧ At E n S ws m1 ν1 a1 w1
  refine wpIn_loop (fun a1 w1 => ∃ j, I j a1 w1) (fun a1 w1 => leastOf (fun j => I j a1 w1)) ⟨k, m, ν, h, hm, Nat.le_refl _, Same.refl _ _, hA⟩ ?_
  intro a1 w1 hI
  obtain ⟨m1, ν1, h1, hm1, hle, hsame, hA1⟩ := (leastOf_spec hI).1
  generalize hj : leastOf (fun j => I j a1 w1) = j at h1
  cases j with
  | zero => cases h1
  | succ j =>
    unfold loopN at h1
    have hro1 : ∀ l, ro = some l → l < m1.c := fun l hl => Nat.lt_of_lt_of_le (hro l hl) hle
    split at h1
    · rename_i m2 h2
      obtain ⟨g, hw⟩ := hf m1 _ m2 h2 hm1 hro1
      have := hw S ws ν1 a1 w1 (Exit.then (fun a' w' => (∃ j, I j a' w') ∧ leastOf (fun j => I j a' w') < j + 1) Q) hA1 (fun ν' a' w' hs hA' => by
        have hI' : I j a' w' := ⟨m2, ν', h1, g.ok, Nat.le_trans hle g.le, hsame.trans hs hle, hA'⟩
        exact ⟨⟨j, hI'⟩, Nat.lt_succ_of_le ((leastOf_spec ⟨j, hI'⟩).2 j hI')⟩)
      rw [roOf_same hro hsame] at this
      exact this
    · rename_i hne
      obtain ⟨g, hw⟩ := hf m1 x m' h1 hm1 hro1
      have := hw S ws ν1 a1 w1 (Exit.then (fun a' w' => (∃ j, I j a' w') ∧ leastOf (fun j => I j a' w') < j + 1) Q) hA1 (fun ν' a' w' hs hA' => by
        have := hQ ν' a' w' (hsame.trans hs hle) hA'
        cases x with
        | normal => exact absurd rfl hg.2
        | exit id => exact this
        | goto l => exact this
        | ret => exact this)
      rw [roOf_same hro hsame] at this
      exact this
end
end Go.Xe
