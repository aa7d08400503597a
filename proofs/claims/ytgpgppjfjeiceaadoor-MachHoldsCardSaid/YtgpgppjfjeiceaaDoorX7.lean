/- A reckoner of closed runs, its seventh part: append. No program in it. -/
import Derived.Test.YtgpgppjfjeiceaaDoorX6
namespace Go.Xe
open Go.RowKit

section
variable {P : Program} {w : World}
theorem bif_else {α : Type} {c : Bool} {x : Option α} {v : α} (h : (bif c then x else none) = some v) : c = true ∧ x = some v := by
  cases c
  · cases h
  · exact ⟨rfl, h⟩
theorem addA_lit (b off j : Nat) : (⟨b, off, none⟩ : Addr).add j = ⟨b, off + j, none⟩ := by unfold Addr.add; split <;> simp_all
theorem rnL_take_drop [Sy] (ν : Val) (cs : List Value) (a b : Nat) : rnL ν ((cs.drop a).take b) = ((rnL ν cs).drop a).take b := by rw [rnL_take, rnL_drop]
/-- Cells that are read lie in memory. -/
theorem cells_at [Sy] {ν : Val} {b off k : Nat} {o : SObj} {cs : List Value} (hc : cellsOf o = some cs) (hd : o.den ν b w) (hl : off + k ≤ cs.length) :
    ∀ j u, (rnL ν ((cs.drop off).take k))[j]? = some u → w.cell? ((⟨(ν b).b, off, none⟩ : Addr).add j) = some u := by
  intro j u hj
  obtain ⟨rest, t, hb⟩ := den_cells hc hd
  rw [addA_lit]
  refine cell_at hb ?_
  rw [rnL_take_drop] at hj
  have hjk : j < k := by
    have := (List.getElem?_eq_some_iff.1 hj).1
    simp at this
    omega
  rw [List.getElem?_take_of_lt hjk, List.getElem?_drop] at hj
  rw [List.getElem?_append_left (by rw [rnL_len]; omega)]
  exact hj
theorem okL_all {d : Nat → Bool} : ∀ {l : List Value}, okL d l = true ↔ ∀ v ∈ l, okV d v = true
  | [] => by simp [okL]
  | v :: r => by simp [okL, okL_all (l := r)]
theorem okL_sub [Sy] {d : Nat → Bool} {l m : List Value} (h : okL d l = true) (hs : ∀ v ∈ m, v ∈ l) : okL d m = true := okL_all.2 fun v hv => okL_all.1 h v (hs v hv)
theorem okL_app [Sy] {d : Nat → Bool} {l m : List Value} (h : okL d l = true) (h' : okL d m = true) : okL d (l ++ m) = true := okL_all.2 fun v hv => by
  rcases List.mem_append.1 hv with q | q
  · exact okL_all.1 h v q
  · exact okL_all.1 h' v q
theorem cells_ok {d : Nat → Bool} {o : SObj} {cs : List Value} (hc : cellsOf o = some cs) (h : o.ok d = true) : okL d cs = true := by
  cases o <;> simp [cellsOf] at hc
  · subst hc; exact h
  · subst hc; exact h
structure Read [Sy] (H : Hp) (sz n : Nat) (x : Value) (vs : List Value) (rd : List Nat) : Prop where
  len : vs.length = n * sz
  cells : ∀ (P : Program) (w : World) (ν : Val), (∀ b o, b ∈ rd → hget b H = some o → o.den ν b w) → (Builtin.firstCells sz n (rn ν x)).run P w = .ok (rnL ν vs).toArray w
  ok : ∀ d : Nat → Bool, (∀ b o, b ∈ rd → hget b H = some o → o.ok d = true) → okL d vs = true
  rd : ∀ b, b ∈ rd → ∃ o cs, hget b H = some o ∧ cellsOf o = some cs ∧ ∃ off l c, x = .slice (some ⟨b, off, none⟩) l c ∧ vs = (cs.drop off).take (n * sz) ∧ off + n * sz ≤ cs.length
theorem first_read [Sy] {H : Hp} {sz n : Nat} {x : Value} {vs : List Value} {rd : List Nat} (h : firstS H sz n x = some (vs, rd)) : Read H sz n x vs rd := by
  unfold firstS at h
  split at h
  · rename_i l c
    obtain ⟨hc, he⟩ := bif_some h
    injection he with h1 h2; subst h1; subst h2
    obtain rfl := beq_true hc
    exact ⟨by simp, fun P w ν _ => by simp [rn, Builtin.firstCells, rnL], fun _ _ => rfl, fun b hb => by simp at hb⟩
  · rename_i b off l c
    split at h
    · rename_i cs hcs
      obtain ⟨hc, he⟩ := bif_some h
      injection he with h1 h2; subst h1; subst h2
      have hc := ble_true hc
      obtain ⟨o, ho, hoc⟩ := Option.bind_eq_some_iff.1 hcs
      refine ⟨by simp; omega, fun P w ν hr => ?_, fun d hd => okL_sub (cells_ok hoc (hd b o (by simp) ho)) (fun v hv => List.mem_of_mem_drop (List.mem_of_mem_take hv)), fun b' hb => ?_⟩
      · simp only [rn, rnA]
        exact run_firstCells_some w sz n ⟨(ν b).b, off, none⟩ l _ _ (by simp [rnL_len]; omega) (cells_at hoc (hr b o (by simp) ho) hc)
      · obtain rfl : b' = b := by simpa using hb
        exact ⟨o, cs, ho, hoc, off, l, c, rfl, rfl, hc⟩
    · cases h
  · rename_i s
    obtain ⟨hc, he⟩ := bif_some h
    injection he with h1 h2; subst h1; subst h2
    simp only [Bool.and_eq_true] at hc
    obtain rfl := beq_true hc.1
    have hn := ble_true hc.2
    have hsl : s.toList.length = s.size := by
      rw [ByteArray.toList_eq]
      obtain ⟨⟨l⟩⟩ := s
      rfl
    refine ⟨by simp [hsl]; omega, fun P w ν _ => ?_, fun d _ => okL_all.2 (fun v hv => by obtain ⟨_, _, rfl⟩ := List.mem_map.1 hv; rfl), fun b hb => by simp at hb⟩
    have e1 : rnL ν ((s.toList.take n).map fun b => Value.int .u8 b.toNat) = (s.toList.take n).map fun b => Value.int .u8 b.toNat := by
      rw [rnL_eq, List.map_map]
      apply List.map_congr_left
      intro b _
      rfl
    simp only [rn, Builtin.firstCells, Sem.run_pure, e1]
    congr 1
    apply Array.ext'
    rw [ByteArray.toList_eq]
    obtain ⟨⟨l⟩⟩ := s
    simp [ByteArray.data_extract]
  · cases h
theorem src_of [Sy] {H : Hp} {sz m : Nat} {x : Value} {vs : List Value} {rd : List Nat} {t : TypeId} {d : TypeDesc} {ν : Val} (hf : firstS H sz m x = some (vs, rd)) (hm : lenOfS x = some m) (hd : P.underlying t = some d) (hk : srcOk d x = true)
    (h1 : vs.all Value.oneCell' = true) (hr : ∀ b o, b ∈ rd → hget b H = some o → o.den ν b w) : Src P sz t (rn ν x) m (rnL ν vs) w := by
  have hR := first_read hf
  have hone : ∀ u ∈ rnL ν vs, u.oneCell' = true := by
    intro u hu
    rw [rnL_eq] at hu
    obtain ⟨v, hv, rfl⟩ := List.mem_map.1 hu
    exact rn_one (List.all_eq_true.1 h1 v hv)
  have hdrew : ∀ b o, b ∈ rd → hget b H = some o → o.den ν b w.drew := fun b o hb ho => (SObj.loc o (show w.drew.heap[(ν b).b]? = w.heap[(ν b).b]? from rfl)).2 (hr b o hb ho)
  refine ⟨?_, fun w' => ?_, hR.cells P w ν hr, hR.cells P w.drew ν hdrew, by rw [rnL_len]; exact hR.len, hone⟩
  · unfold srcOk at hk
    split at hk
    · exact .inl ⟨_, hd⟩
    · exact .inl ⟨_, hd⟩
    · exact .inr hd
    · cases hk
  · unfold lenOfS at hm
    split at hm
    · injection hm with hm; subst hm
      rename_i a n c
      cases a <;> simp [rn, Builtin.lenOf]
    · injection hm with hm; subst hm
      simp [rn, Builtin.lenOf]
    · cases hm
theorem append_room [Sy] {t tx ty e : TypeId} {i : TypeInfo} (ht : P.underlying t = some (.slice e)) (hi : P.info? e = some i) {b off sLen sCap : Nat} {x : Value} {n : Nat} {news : List Value} (hs : Src P i.size tx x n news w)
    (hroom : sLen + n ≤ sCap) {w' : World} (hst : (storeCells ⟨b, off + sLen * i.size, none⟩ news).run P w = .ok () w') :
    (Builtin.append_ #[t, tx] ty #[.slice (some ⟨b, off, none⟩) sLen sCap, x]).run P w = .ok (.slice (some ⟨b, off, none⟩) (sLen + n) sCap) w' := by
  rcases hs.kind with ⟨e', hk⟩ | hk <;> simp [Builtin.append_, run_underlying ht, run_underlying hk, sizeOf, typeInfo, hi, hs.len, hroom, hs.cells, addA_lit, hst]
theorem append_nil {t tx ty e : TypeId} {i : TypeInfo} (ht : P.underlying t = some (.slice e)) (hi : P.info? e = some i) {x : Value} {news : List Value} (hs : Src P i.size tx x 0 news w) :
    (Builtin.append_ #[t, tx] ty #[.slice none 0 0, x]).run P w = .ok (.slice none 0 0) w := by
  rcases hs.kind with ⟨e', hk⟩ | hk <;> simp [Builtin.append_, run_underlying ht, run_underlying hk, sizeOf, typeInfo, hi, hs.len, hs.cells]
theorem zeroCells_eq [Sy] (z : Array Value) (n : Nat) : (Builtin.zeroCells z n) = ⟨reps n z.toList⟩ := range_reps z n
/-- The row that an append makes. -/
theorem grown_den [Sy] {c : Nat} {e sz k cap : Nat} {vs z : List Value} {ν : Val} {w0 : World} (hz : z.length = sz) (hv : vs.length = k * sz) (hcap : k ≤ cap) {w' : World} (hw : w' = w0.alloc (.cells ((rnL ν vs).toArray ++ (⟨reps (cap - k) z⟩ : Array Value)) e)) (hc : (ν c) = ⟨w0.heap.size, cap⟩) : (SObj.row vs e sz).den ν c w' := by
  subst hw
  refine ⟨reps (cap - k) z, ?_, ?_⟩
  · rw [hc]
    have := World.alloc_heap_new w0 (.cells ((rnL ν vs).toArray ++ (⟨reps (cap - k) z⟩ : Array Value)) e)
    rw [this]
    congr 2
    apply Array.ext'
    simp
  · rw [hc, hv, reps_len, hz, ← Nat.add_mul]
    show (k + (cap - k)) * sz = cap * sz
    rw [show k + (cap - k) = cap by omega]
/-- A row that goes on under another name. -/
theorem post_move [Sy] {c b : Nat} {H : Hp} {v : Value} {rd : List Nat} {o o' : SObj} {ν : Val} {w w' : World} {x : Nm} (h : Holds H ⟨v, b :: rd, [(c, o')], [b], 1⟩ ν w) (hc : ∀ n u, n ∈ b :: rd → hget n H = some u → n < c ∧ u.ok (fun k => Nat.blt k c) = true)
    (ho : hget b H = some o) (_hb : b ∉ rd) (hinj : ∀ m u, m ∈ rd → hget m H = some u → (ν m).b = (ν b).b → m = b)
    (hg : Below 0 w w') (hs : ∀ k, k < w.heap.size → k ≠ (ν b).b → w'.heap[k]? = w.heap[k]?) (hd : o'.den (setV ν c x) c w') (hx : w.heap.size ≤ x.b ∨ x.b = (ν b).b) : PostE c H ⟨v, b :: rd, [(c, o')], [b], 1⟩ ν (setV ν c x) w w' := by
  have hbc : b < c := (hc b o (by simp) ho).1
  have hext : ∀ k, Nat.blt k c = true → setV ν c x k = ν k := fun k hk => setV_ne ν _ (fun q => by have := blt_true hk; omega)
  have hup : ∀ m u, (entOf c none (fun _ => none) H ⟨v, b :: rd, [(c, o')], [b], 1⟩).up m = some u → (m = c ∧ u = some o') ∨ (m = b ∧ u = none) := by
    intro m u hm
    simp only [entOf, hget, inB] at hm
    cases hb : Nat.beq c m with
    | true => rw [hb] at hm; simp at hm; exact .inl ⟨(beq_true hb).symm, hm.symm⟩
    | false =>
      rw [hb] at hm
      simp only [cond_false] at hm
      cases hb2 : Nat.beq b m with
      | true => rw [hb2] at hm; simp at hm; exact .inr ⟨(beq_true hb2).symm, hm.symm⟩
      | false => rw [hb2] at hm; simp at hm
  have hupb : (entOf c none (fun _ => none) H ⟨v, b :: rd, [(c, o')], [b], 1⟩).up b = some none := by
    simp [entOf, hget, inB, beq_ne (show c ≠ b by omega)]
  refine ⟨fun k hk => setV_ne ν _ (inR_ne hk), hg, fun k hk hne => hs k hk (hne b o (rd_mk (by simp) ho)), ?_, ?_, ?_⟩
  · intro m u hm hu
    obtain ⟨h1, h2⟩ := rd_eq hm
    have hmb : m ≠ b := fun q => by rw [q, hupb] at hu; cases hu
    have h1' : m ∈ rd := by
      rcases List.mem_cons.1 h1 with q | q
      · exact absurd q hmb
      · exact q
    have hok := hc m u h1 h2
    have hdm := h.den m u h1 h2
    refine (SObj.cong (d := fun k => Nat.blt k c) hext u (by simpa using hok.1) hok.2).2 ((SObj.loc u ?_).2 hdm)
    exact hs _ (SObj.lt u hdm) fun q => hmb (hinj m u h1' h2 q)
  · intro m u hm
    rcases hup m _ hm with ⟨rfl, q⟩ | ⟨_, q⟩
    · cases q
      refine ⟨hd, ?_⟩
      rw [setV_self]
      rcases hx with hx | hx
      · exact .inl hx
      · exact .inr ⟨b, o, rd_mk (by simp) ho, by rw [hupb]; simp, hx⟩
    · cases q
  · intro m k u u' hm hk _
    rcases hup m _ hm with ⟨rfl, _⟩ | ⟨_, q⟩
    · rcases hup k _ hk with ⟨rfl, _⟩ | ⟨_, q⟩
      · rfl
      · cases q
    · cases q
theorem rnL_ext [Sy] {c : Nat} {ν : Val} {x : Nm} {l : List Value} (h : okL (fun k => Nat.blt k c) l = true) : rnL (setV ν c x) l = rnL ν l :=
  rnL_cong (d := fun k => Nat.blt k c) (fun k hk => setV_ne ν _ (fun q => by have := blt_true hk; omega)) l h
theorem append_run [Sy] {G : Nat} {H : Hp} {c : Nat} {ts : List TypeId} {args : List Value} {e : En} {ν : Val} {ty : TypeId} (h : appendS P G H c ts args = some e) (hH : Holds H e ν w)
    (hinj : ∀ m k u u', m ∈ e.rd → k ∈ e.rd → hget m H = some u → hget k H = some u' → (ν m).b = (ν k).b → m = k) (hc : ∀ n o, n ∈ e.rd → hget n H = some o → n < c ∧ o.ok (fun k => Nat.blt k c) = true) :
    ∃ ν' w', (Builtin.append_ ts.toArray ty (args.map (rn ν)).toArray).run P w = .ok (rn ν' e.v) w' ∧ PostE c H e ν ν' w w' := by
  unfold appendS at h
  split at h
  · rename_i t t2 base n cap x
    split at h
    · rename_i el d2 ht ht2
      split at h
      · rename_i i z m hi hz hm
        obtain ⟨hq, h⟩ := bif_none h
        simp only [Bool.or_eq_false_iff, Bool.not_eq_false'] at hq
        obtain ⟨⟨⟨⟨q1, q2⟩, q3⟩, q4⟩, q5⟩ := hq
        have q1 := beq_false q1
        have q2 := beq_true q2
        have q3 := ble_true q3
        have q4 := ble_true q4
        split at h
        · rename_i old r1 new r2 hf1 hf2
          obtain ⟨h1, h⟩ := bif_none h
          have h1 : new.all Value.oneCell' = true := by simpa using h1
          have R1 := first_read hf1
          have R2 := first_read hf2
          have fit : ∀ k, Builtin.nextslicecap (n + m) k * i.bytes ≤ 281474976710656 ∨ ¬ k < n + m := by
            intro k
            by_cases hk : k < n + m
            · left
              have := nextslicecap_le hk
              calc Builtin.nextslicecap (n + m) k * i.bytes ≤ (2 * (n + m)) * i.bytes := Nat.mul_le_mul_right _ this
                _ = 2 * ((n + m) * i.bytes) := by rw [Nat.mul_assoc]
                _ ≤ 281474976710656 := by omega
            · exact .inr hk
          have h63 : ((n + m : Nat) : Int) ≤ 9223372036854775807 := by
            have : ((n + m : Nat) : Int) ≤ ((1000000000 : Nat) : Int) := Int.ofNat_le.2 q4
            omega
          have hz' : i.zero = some z := by
            have := hz
            unfold zeroT at this
            rw [hi] at this
            simp only [Option.bind_some] at this
            split at this
            · rename_i z' hzz
              rw [hzz]
              cases hb : okV (fun _ => false) z' <;> rw [hb] at this
              · cases this
              · exact this
            · cases this
          have src : (∀ b o, b ∈ r2 → hget b H = some o → o.den ν b w) → Src P i.size t2 (rn ν x) m (rnL ν new) w := fun hr => src_of hf2 hm ht2 q5 h1 hr
          unfold appendTo at h
          split at h
          · -- nil
            obtain ⟨hc0, h⟩ := bif_else h
            simp only [Bool.and_eq_true] at hc0
            obtain rfl := beq_true hc0.1
            obtain rfl := beq_true hc0.2
            cases hm0 : Nat.beq m 0 with
            | true =>
              rw [hm0] at h
              injection h with h; subst h
              obtain rfl := beq_true hm0
              exact ⟨ν, w, append_nil ht hi (src fun b o hb ho => hH.den b o hb ho), post_read hH⟩
            | false =>
              rw [hm0] at h
              injection h with h; subst h
              have hm0 := beq_false hm0
              have hs := src fun b o hb ho => hH.den b o hb ho
              have hg := run_append_grow_src (P := P) w t t2 ty el i z ht hi hz' none 0 0 [] (by simp [Builtin.firstCells]) (rn ν x) m (rnL ν new) hs (by omega) (by simpa using h63) (by have := fit 0; rw [Nat.zero_add] at this ⊢; exact this.resolve_right (by omega))
              rw [Nat.zero_add, List.nil_append] at hg
              refine ⟨setV ν c ⟨w.heap.size, grownCap w m 0 el⟩, w.drew.alloc (.cells ((rnL ν new).toArray ++ Builtin.zeroCells z.cells (grownCap w m 0 el - m)) el), ?_, ?_⟩
              · simp only [List.map_cons, List.map_nil, rn, rnA, setV_self, rnCap, Nat.lt_irrefl, if_false, Nat.sub_self, Nat.sub_zero]
                exact hg
              · refine post_new hH hc ?_ ?_ ?_
                · exact ((Below.refl 0 w).drew).alloc (Nat.zero_le _) _
                · intro k hk
                  exact alloc_old (w := w.drew) hk
                · have hnok := R2.ok (fun k => Nat.blt k c) (fun b o hb ho => (hc b o hb ho).2)
                  refine grown_den (ν := setV ν c _) (z := z.cells.toList) (k := m) (w0 := w.drew) q2 R2.len (grownCap_ge w _ _ _) ?_ (setV_self _ _ _)
                  rw [rnL_ext hnok, zeroCells_eq]
          · rename_i b off _ _
            obtain ⟨_, h⟩ := bif_none h
            split at h
            · rename_i cs te hb
              obtain ⟨hq, h⟩ := bif_none h
              simp only [Bool.or_eq_false_iff, Bool.not_eq_false'] at hq
              obtain ⟨⟨p1, p2⟩, p3⟩ := hq
              have p1 : cap < mk0 := by
                have h' : ¬ (Nat.ble mk0 cap = true) := by simp [p1]
                rw [Nat.ble_eq] at h'
                omega
              have p2 := beq_true p2
              have p3 := blt_false p3
              have hrn : rn ν (.slice (some ⟨b, off, none⟩) n cap) = .slice (some ⟨(ν b).b, off, none⟩) n cap := by simp [rn, rnA, rnCap, p1]
              cases hle : Nat.ble (n + m) cap with
              | true =>
                rw [hle] at h
                injection h with h; subst h
                have hle := ble_true hle
                have hs := src fun k o hk ho => hH.den k o (by simp [hk]) ho
                have hnl : new.length = m * i.size := R2.len
                have hfit : off + n * i.size + new.length ≤ cs.length := by
                  rw [hnl, ← p2, Nat.add_assoc, ← Nat.add_mul]
                  exact Nat.add_le_add_left (Nat.mul_le_mul_right _ hle) _
                obtain ⟨w', hst, hd, hB, hoth⟩ := write_run (P := P) (o := .cells cs te) rfl (hH.den b _ (by simp) hb) hfit h1
                refine ⟨ν, w', ?_, ?_⟩
                · simp only [List.map_cons, List.map_nil]
                  rw [hrn]
                  have := append_room (ty := ty) ht hi hs hle hst
                  rw [show rn ν (.slice (some ⟨b, off, none⟩) (n + m) cap) = .slice (some ⟨(ν b).b, off, none⟩) (n + m) cap from by simp [rn, rnA, rnCap, p1]]
                  exact this
                · exact post_turn hH (by simp) hb (fun k u hk hu q => hinj k b u _ hk (by simp) hu hb q) hB hoth hd
              | false =>
                rw [hle] at h
                injection h with h; subst h
                have hle' : ¬ (Nat.ble (n + m) cap = true) := by simp [hle]
                rw [Nat.ble_eq] at hle'
                have hs := src fun k o hk ho => hH.den k o (by simp [hk]) ho
                have hold := R1.cells P w.drew ν (fun k o hk ho => (SObj.loc o (show w.drew.heap[(ν k).b]? = w.heap[(ν k).b]? from rfl)).2 (hH.den k o (by simp [hk]) ho))
                rw [hrn] at hold
                have hg := run_append_grow_src (P := P) w t t2 ty el i z ht hi hz' (some ⟨(ν b).b, off, none⟩) n cap (rnL ν old) hold (rn ν x) m (rnL ν new) hs (by omega) h63 ((fit cap).resolve_right (by omega))
                refine ⟨setV ν c ⟨w.heap.size, grownCap w (n + m) cap el⟩, w.drew.alloc (.cells ((rnL ν old ++ rnL ν new).toArray ++ Builtin.zeroCells z.cells (grownCap w (n + m) cap el - (n + m))) el), ?_, ?_⟩
                · simp only [List.map_cons, List.map_nil]
                  rw [hrn]
                  simp only [rn, rnA, setV_self, rnCap, Nat.lt_irrefl, if_false, Nat.sub_self, Nat.sub_zero]
                  exact hg
                · refine post_new hH hc ?_ ?_ ?_
                  · exact ((Below.refl 0 w).drew).alloc (Nat.zero_le _) _
                  · intro k hk
                    exact alloc_old (w := w.drew) hk
                  · have hnok := okL_app (R1.ok (fun k => Nat.blt k c) (fun k o hk ho => (hc k o (by simp [hk]) ho).2)) (R2.ok (fun k => Nat.blt k c) (fun k o hk ho => (hc k o (by simp [hk]) ho).2))
                    refine grown_den (ν := setV ν c _) (z := z.cells.toList) (k := n + m) (w0 := w.drew) q2 (by rw [List.length_append, R1.len, R2.len, Nat.add_mul]) (grownCap_ge w _ _ _) ?_ (setV_self _ _ _)
                    rw [rnL_ext hnok, zeroCells_eq, rnL_app]
            · rename_i cs te sz' hb
              obtain ⟨hq, hh⟩ := bif_none h
              clear h
              simp only [Bool.or_eq_false_iff, Bool.not_eq_false'] at hq
              obtain ⟨⟨⟨⟨⟨p1, p2⟩, p3⟩, p4⟩, p5⟩, p6⟩ := hq
              obtain rfl := beq_true p1
              obtain rfl := beq_true p2
              obtain rfl := beq_true p3
              obtain rfl := beq_true p4
              have p5 := inB_of p5
              have p6 := blt_false p6
              have hold1 : ∀ k, k ∈ r1 → k = b := by
                intro k hk
                obtain ⟨o, cs', _, _, off', l', c', hx, _⟩ := R1.rd k hk
                exact ((Addr.mk.inj (Option.some.inj (Value.slice.inj hx).1)).1).symm
              cases hm0 : Nat.beq m 0 with
              | true =>
                rw [hm0] at hh
                injection hh with hh; subst hh
                obtain rfl := beq_true hm0
                obtain ⟨rest, hblk, hlen⟩ := hH.den b _ (by simp) hb
                have hs := src fun k o hk ho => hH.den k o (by simp [hk]) ho
                have hnew : new = [] := List.eq_nil_of_length_eq_zero (by rw [R2.len]; simp)
                subst hnew
                have hcap : n + 0 ≤ (ν b).e := by
                  have hle : n * i.size ≤ (ν b).e * i.size := by omega
                  exact Nat.le_of_mul_le_mul_right hle (Nat.pos_of_ne_zero q1)
                refine ⟨ν, w, ?_, post_read hH⟩
                simp only [List.map_cons, List.map_nil]
                have hrn : ∀ k, rn ν (.slice (some ⟨b, 0, none⟩) k mk0) = .slice (some ⟨(ν b).b, 0, none⟩) k (ν b).e := fun k => by simp [rn, rnA, rnCap]
                rw [hrn]
                exact append_room (ty := ty) ht hi hs hcap (by simp [rnL, storeCells])
              | false =>
                rw [hm0] at hh
                injection hh with hh; subst hh
                have hrn : ∀ k, rn ν (.slice (some ⟨b, 0, none⟩) k mk0) = .slice (some ⟨(ν b).b, 0, none⟩) k (ν b).e := fun k => by simp [rn, rnA, rnCap]
                have hs := src fun k o hk ho => hH.den k o (by simp [hk]) ho
                have hdb := hH.den b _ (by simp) hb
                obtain ⟨rest, hblk, hlen⟩ := hdb
                have hokold := R1.ok (fun k => Nat.blt k c) (fun k o hk ho => (hc k o (by simp [hold1 k hk]) ho).2)
                have hoknew := R2.ok (fun k => Nat.blt k c) (fun k o hk ho => (hc k o (by simp [hk]) ho).2)
                have hnl : new.length = m * i.size := R2.len
                have hol : old.length = n * i.size := R1.len
                have hinj' : ∀ k u, k ∈ r2 → hget k H = some u → (ν k).b = (ν b).b → k = b := fun k u hk hu q => hinj k b u _ (by simp [hk]) (by simp) hu hb q
                have holdeq : old = cs.take (n * i.size) := by
                  unfold firstS at hf1
                  simp only [hb, Option.bind_some, cellsOf, Nat.zero_add] at hf1
                  obtain ⟨_, hf1⟩ := bif_some hf1
                  rw [← (Prod.mk.inj hf1).1]; rfl
                by_cases hroom : n + m ≤ (ν b).e
                · -- there is room
                  have htot : n * i.size + m * i.size ≤ (rnL ν cs ++ rest).length := by
                    rw [List.length_append, rnL_len, hlen, ← Nat.add_mul]
                    exact Nat.mul_le_mul_right _ hroom
                  have hone : ∀ v, v ∈ rnL ν new → v.oneCell' = true := hs.one
                  obtain ⟨w', hst, hblk', hB, hoth⟩ := run_store_cells (P := P) (rnL ν new) 0 (n * i.size) (rnL ν cs ++ rest) w hblk (by simp only [rnL_len, hnl, Nat.add_zero]; exact htot) hone
                  refine ⟨setV ν c (ν b), w', ?_, ?_⟩
                  · simp only [List.map_cons, List.map_nil]
                    rw [hrn]
                    have := append_room (ty := ty) ht hi (b := (ν b).b) (off := 0) hs hroom (by rw [Nat.zero_add]; exact hst)
                    rw [this]
                    simp [rn, rnA, rnCap, setV_self]
                  · refine post_move hH hc hb p5 hinj' hB (fun k _ hne => hoth k hne) ?_ (.inr rfl)
                    refine ⟨(rnL ν cs ++ rest).drop (n * i.size + m * i.size), ?_, ?_⟩
                    · have e : setL (rnL ν cs ++ rest) (n * i.size + 0) (rnL ν new) = rnL ν old ++ rnL ν new ++ (rnL ν cs ++ rest).drop (n * i.size + m * i.size) := by
                        unfold setL
                        rw [rnL_len, hnl, Nat.add_zero, List.take_append_of_le_length (by rw [rnL_len]; omega), List.append_assoc, holdeq, rnL_take]
                      rw [setV_self, hblk', e, rnL_ext (okL_app hokold hoknew), rnL_app]
                    · rw [setV_self, List.length_append, hol, hnl, List.length_drop, List.length_append, rnL_len, hlen]
                      rw [List.length_append, rnL_len, hlen] at htot
                      omega
                · have hold := R1.cells P w.drew ν (fun k o hk ho => (SObj.loc o (show w.drew.heap[(ν k).b]? = w.heap[(ν k).b]? from rfl)).2 (hH.den k o (by simp [hold1 k hk]) ho))
                  rw [hrn] at hold
                  have hg := run_append_grow_src (P := P) w t t2 ty te i z ht hi hz' (some ⟨(ν b).b, 0, none⟩) n (ν b).e (rnL ν old) hold (rn ν x) m (rnL ν new) hs (by omega) h63 ((fit (ν b).e).resolve_right (by omega))
                  refine ⟨setV ν c ⟨w.heap.size, grownCap w (n + m) (ν b).e te⟩, w.drew.alloc (.cells ((rnL ν old ++ rnL ν new).toArray ++ Builtin.zeroCells z.cells (grownCap w (n + m) (ν b).e te - (n + m))) te), ?_, ?_⟩
                  · simp only [List.map_cons, List.map_nil]
                    rw [hrn]
                    rw [hg]
                    simp [rn, rnA, rnCap, setV_self]
                  · refine post_move hH hc hb p5 hinj' ?_ ?_ ?_ (.inl (Nat.le_refl _))
                    · exact ((Below.refl 0 w).drew).alloc (Nat.zero_le _) _
                    · intro k hk _
                      exact alloc_old (w := w.drew) hk
                    · refine grown_den (ν := setV ν c _) (z := z.cells.toList) (k := n + m) (w0 := w.drew) q2 (by rw [List.length_append, R1.len, R2.len, Nat.add_mul]) (grownCap_ge w _ _ _) ?_ (setV_self _ _ _)
                      rw [rnL_ext (okL_app hokold hoknew), zeroCells_eq, rnL_app]
            · cases h
          · cases h
        · cases h
      · cases h
    · cases h
  · cases h
end
end Go.Xe
