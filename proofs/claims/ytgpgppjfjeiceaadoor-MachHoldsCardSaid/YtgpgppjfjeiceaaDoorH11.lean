/- MachHolds: the row. By AI agents. -/
import Derived.Test.YtgpgppjfjeiceaaDoorH10
import Derived.Test.YtgpgppjfjeiceaaDoorCards
import Derived.Test.YtgpgppjfjeiceaaDoorTie
import Derived.WalkKit
import Derived.ProofKit
import Derived.OpenShut
import Derived.Deep.DeepHandedRow
import Derived.Lib.LaidTab
namespace Go.Proofs.YtgpgppjfjeiceaaDoor.machHolds
open Go.ChangeShapes Go.WideShapes Go.ChangeAt Go.RowKit
theorem own : ownKnob Tryd.prog.godebug = none := by kernel_rfl
theorem str_eta (s : ByteArray) : Value.string s = strV s.data.toList := by
  obtain ⟨⟨l⟩⟩ := s
  rfl
/-- AN ARRAY OF STRINGS THAT READS AS THE TABLE HOLDS THE TABLE's STRINGS. -/
theorem cells_of_strs {H : Type} {enc : TypeId × Value → H} {P : Program} {w : World} {base : Nat} {sp : Nat → Bool} {held : Bool} {fuel : Nat} {t e : TypeId} {n : Nat} {cs : List Value} {zs : List (List UInt8)} {p : List MemPlace}
    (ht : P.underlying t = some (.array n e)) (he : P.underlying e = some .string) (hce : P.cellsOf e = 1) (hct : P.cellsOf t = n)
    (h : DataW.trod enc P w base sp held fuel t cs = some (.agg (zs.map fun z => .lit (.string z)), p)) : cs = zs.map strV := by
  cases fuel with
  | zero => simp [DataW.trod] at h
  | succ fuel =>
    simp only [DataW.trod, ht, hce, hct, Nat.mul_one] at h
    split at h
    · rename_i hl
      obtain ⟨xs, hm, hx⟩ := Option.map_eq_some_iff.1 h
      have hxs : xs.map (·.1) = zs.map fun z => (DataW.lit (.string z) : DataW H) := by
        have := congrArg Prod.fst hx
        simpa using this
      have hxl : xs.length = n := by simpa using Lib.mapM_length hm
      have hzl : zs.length = n := by
        have := congrArg List.length hxs
        simp at this
        omega
      apply List.ext_getElem?
      intro i
      by_cases hi : i < n
      · obtain ⟨b, hb, hf⟩ := Lib.mapM_at hm i i (by simp [hi])
        obtain ⟨s, hc, rfl, _⟩ := DataW.trod_string he hf
        have h1 : cs[i]? = some (.string s) := by
          have := congrArg (·[0]?) hc
          simpa [List.getElem?_take, List.getElem?_drop] using this
        have h2 : (xs.map (·.1))[i]? = some (DataW.lit (.string s.data.toList) : DataW H) := by simp [hb]
        rw [hxs] at h2
        simp only [List.getElem?_map, Option.map_eq_some_iff, DataW.lit.injEq, Lit.string.injEq] at h2
        obtain ⟨z', hz', rfl⟩ := h2
        rw [h1, List.getElem?_map, hz', str_eta]
        rfl
      · rw [List.getElem?_eq_none (by omega), List.getElem?_eq_none (by simp; omega)]
    · cases h
/-- A variable's block, from its shape and what it holds. -/
theorem block_of {W : World} (hs : W.ShapedOpen Tryd.prog) {name : String} {g : Nat} {t : TypeId} {cs : Array Value} {l : List Value} (hg : Tryd.prog.globalNamed name = some g)
    (hsh : (((begin Tryd.prog (fun _ _ => 0) default).world.heap[g]?).bind Obj.row?).map (·.2) = some t) (hlt : g < Tryd.prog.globals.size) (hv : W.var? Tryd.prog name = some cs) (hcs : cs.toList = l) : W.heap[g]? = some (.cells l.toArray t (0, 0)) := by
  obtain ⟨⟨z, t'⟩, h1, h2⟩ := Option.map_eq_some_iff.1 hsh
  simp only at h2
  subst h2
  obtain ⟨cs2, hcs2, _⟩ := hs.1 g z t' hlt h1
  have hv2 : W.var? Tryd.prog name = some cs2 := by
    unfold World.var?
    rw [hg]
    simp [hcs2]
  obtain rfl : cs = cs2 := Option.some.inj (hv.symm.trans hv2)
  rw [hcs2]
  obtain ⟨l'⟩ := cs
  simp only at hcs
  rw [hcs]
theorem laid_eq : Rows.machHoldsRow.laid = [("burin/kind.names", .agg (namesZ.map fun z => .lit (.string z))), ("burin/mach.given", Lib.tabData .i64 givenZ), ("burin/mach.kept", Lib.tabData .i64 keptZ), ("burin/mach.lost", Lib.tabData .i64 lostZ)] := rfl
theorem g0 : Tryd.prog.globalNamed "burin/mach.kept" = some 0 := by kernel_rfl
theorem g1 : Tryd.prog.globalNamed "burin/mach.given" = some 1 := by kernel_rfl
theorem g2 : Tryd.prog.globalNamed "burin/kind.names" = some 2 := by kernel_rfl
theorem g4 : Tryd.prog.globalNamed "burin/mach.lost" = some 4 := by kernel_rfl
theorem y0 : (Tryd.prog.globals[0]?).map (·.type) = some 143 := by kernel_rfl
theorem y1 : (Tryd.prog.globals[1]?).map (·.type) = some 143 := by kernel_rfl
theorem y2 : (Tryd.prog.globals[2]?).map (·.type) = some 165 := by kernel_rfl
theorem y4 : (Tryd.prog.globals[4]?).map (·.type) = some 182 := by kernel_rfl
theorem s0 : (((begin Tryd.prog (fun _ _ => 0) default).world.heap[0]?).bind Obj.row?).map (·.2) = some 143 := by kernel_rfl
theorem s1 : (((begin Tryd.prog (fun _ _ => 0) default).world.heap[1]?).bind Obj.row?).map (·.2) = some 143 := by kernel_rfl
theorem s2 : (((begin Tryd.prog (fun _ _ => 0) default).world.heap[2]?).bind Obj.row?).map (·.2) = some 165 := by kernel_rfl
theorem s4 : (((begin Tryd.prog (fun _ _ => 0) default).world.heap[4]?).bind Obj.row?).map (·.2) = some 182 := by kernel_rfl
theorem tables {W : World} (hs : W.ShapedOpen Tryd.prog) (h : laidMetH Tryd.prog Rows.machHoldsRow.laid W) : Tabs W := by
  rw [laid_eq] at h
  have h' : laidMet Tryd.prog [("burin/kind.names", .agg (namesZ.map fun z => .lit (.string z))), ("burin/mach.given", Lib.tabData .i64 givenZ), ("burin/mach.kept", Lib.tabData .i64 keptZ), ("burin/mach.lost", Lib.tabData .i64 lostZ)] W := h
  obtain ⟨ps, ⟨ga, ta, ca, fa, pa, qa, hga, hta, hva, hda, ⟨gb, tb, cb, fb, pb, qb, hgb, htb, hvb, hdb, ⟨gc, tc, cc, fc, pc, qc, hgc, htc, hvc, hdc, ⟨gd, td, cd, fd, pd, qd, hgd, htd, hvd, hdd, _, _⟩, _⟩, _⟩, _⟩, _⟩ := h'
  obtain rfl := Option.some.inj (g2.symm.trans hga)
  obtain rfl := Option.some.inj (g1.symm.trans hgb)
  obtain rfl := Option.some.inj (g0.symm.trans hgc)
  obtain rfl := Option.some.inj (g4.symm.trans hgd)
  obtain rfl := Option.some.inj (y2.symm.trans hta)
  obtain rfl := Option.some.inj (y1.symm.trans htb)
  obtain rfl := Option.some.inj (y0.symm.trans htc)
  obtain rfl := Option.some.inj (y4.symm.trans htd)
  have ea := cells_of_strs Tryd.underlying165 (e := 9) (by kernel_rfl) (by kernel_rfl) (by kernel_rfl) hda
  have eb := Lib.cells_of_tab Tryd.underlying143 (by kernel_rfl) (by kernel_rfl) (by kernel_rfl) hdb
  have ec := Lib.cells_of_tab Tryd.underlying143 (by kernel_rfl) (by kernel_rfl) (by kernel_rfl) hdc
  have ed := Lib.cells_of_tab Tryd.underlying182 (by kernel_rfl) (by kernel_rfl) (by kernel_rfl) hdd
  exact ⟨block_of hs g0 s0 (of_decide_eq_true (by kernel_rfl)) hvc ec, block_of hs g1 s1 (of_decide_eq_true (by kernel_rfl)) hvb eb, block_of hs g2 s2 (of_decide_eq_true (by kernel_rfl)) hva ea, block_of hs g4 s4 (of_decide_eq_true (by kernel_rfl)) hvd ed⟩

/-- The post where no place is read behind an argument. -/
theorem post_of_none {H : Type} {enc : TypeId × Value → H} {P : Program} {f : Func} {s : ChangeSpec} {apart fresh handsOn again : Bool} {W W' : World} {args : Array Value} {v : Value} {ds gs : List (DataW H)}
    (hW : DataW.Whole enc P f.params.toList s.vars apart W args.toList ds gs [])
    (hres : ∀ (b : Nat) (sp : Nat → Bool) (hd : Bool), DataW.TrodAll enc P W' b sp hd f.resultTypes.toList (v.resultList f.resultTypes.size) (s.fn H (ds ++ gs)).results [])
    (hargs : ∀ sp : Nat → Bool, DataW.TrodAll enc P W' 0 sp true f.params.toList args.toList (s.fn H (ds ++ gs)).args [])
    (hvars : ∀ sp : Nat → Bool, DataW.TrodVars enc P W' sp s.vars (s.fn H (ds ++ gs)).vars [])
    (hk : W.keptBut W' (· ∈ ([] : List MemPlace)))
    (hok : ∀ (j : Nat) (t : TypeId) (r : Value), f.resultTypes[j]? = some t → (v.resultList f.resultTypes.size)[j]? = some r → Value.okWide P W' .any 0 t r) :
    s.post enc P f apart fresh handsOn again W args v W' := by
  refine ⟨ds, gs, [], [], [], [], hW, hres _ _ _, hargs _, hvars _, World.keptBut_mono (fun p hp => (by cases hp)) hk, fun _ => ?_⟩
  refine ⟨hok, _, _, ([] ++ []) ++ [], ⟨[] ++ [], [], trodAll_append (hargs _) (hres _ _ _), hvars _, rfl, ?_, ?_⟩, ?_⟩
  · intro b off hp
    simp at hp
  · intro _
    exact List.nodup_nil
  · intro p hp _
    simp at hp

set_option maxRecDepth 100000 in
theorem contract (H : Type) (enc : TypeId × Value → H) (W : World) (base : Nat) (args : Array Value) (ds gs : List (DataW H)) (before : List MemPlace)
    (hval : ∀ (j : Nat) t v, Tryd.f3.params[j]? = some t → args[j]? = some v → Value.okWide Tryd.prog W .any base t v)
    (hW : DataW.Whole enc Tryd.prog Tryd.f3.params.toList Rows.machHoldsSpec.vars false W args.toList ds gs before) (hL : laidMetH Tryd.prog Rows.machHoldsRow.laid W) (hsh : W.ShapedOpen Tryd.prog) :
    Calls Tryd.prog 3 args W fun e W' => ∃ v, e = .returned v ∧ Rows.machHoldsSpec.post enc Tryd.prog Tryd.f3 false true false false W args v W' := by
  have hW' := hW
  obtain ⟨p, q, hA0, hV, rfl, hfz, hnd⟩ := hW
  have hA : DataW.TrodAll enc Tryd.prog W 0 (fun _ => true) true Tryd.f3.params.toList args.toList ds p := hA0
  rw [Tryd.params3] at hA hval
  obtain ⟨v0, vs0, d0, ds0, p0, q0, hargs, rfl, rfl, h0, r0⟩ := trodAll_cons hA
  obtain ⟨v1, vs1, d1, ds1, p1, q1, hargs1, rfl, rfl, h1, r1⟩ := trodAll_cons r0
  obtain ⟨v2, vs2, d2, ds2, p2, q2, hargs2, rfl, rfl, h2, r2⟩ := trodAll_cons r1
  obtain ⟨rfl, rfl, rfl⟩ := trodAll_nil r2
  obtain rfl : args = #[v0, v1, v2] := by cases args; simp_all
  obtain ⟨rfl, rfl⟩ := trodVars_none hV
  obtain ⟨x, rfl, rfl, rfl, wx⟩ := open_int Tryd.underlying2 (hval 0 2 v0 rfl rfl) h0
  obtain ⟨y, rfl, rfl, rfl, wy⟩ := open_int Tryd.underlying2 (hval 1 2 v1 rfl rfl) h1
  obtain ⟨b, rfl, rfl, rfl⟩ := open_bool Tryd.underlying4 (hval 2 4 v2 rfl rfl) h2
  clear hA0
  simp only [List.append_nil] at hW'
  have hx : Go.Sx.I64 x := by simpa [Lit.wf, IntKind.min, IntKind.max, IntKind.bits, IntKind.signed, Go.Sx.I64] using wx
  have hy : Go.Sx.I64 y := by simpa [Lit.wf, IntKind.min, IntKind.max, IntKind.bits, IntKind.signed, Go.Sx.I64] using wy
  refine (walk b x y hx hy W (tables hsh hL)).mono fun e W' ⟨he, hg⟩ => ?_
  subst he
  exact ⟨_, rfl, post_of_none hW' (fun _ _ _ => trodAll_cons_mk (shut_bool Tryd.underlying4 _) trodAll_mk0)
    (fun _ => trodAll_cons_mk (shut_int Tryd.underlying2 wx) (trodAll_cons_mk (shut_int Tryd.underlying2 wy) (trodAll_cons_mk (shut_bool Tryd.underlying4 _) trodAll_mk0))) (fun _ => rfl)
    (hg.frame _) (ok_one (by kernel_rfl) rfl (okWide_bool_mk Tryd.underlying4 _))⟩
end Go.Proofs.YtgpgppjfjeiceaaDoor.machHolds
