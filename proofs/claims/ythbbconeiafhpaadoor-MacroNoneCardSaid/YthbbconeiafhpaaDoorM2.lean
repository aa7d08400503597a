/- MacroNone, third part: the row and the card. By AI agents. -/
import Derived.Test.YthbbconeiafhpaaDoorM1
import Derived.Test.YthbbconeiafhpaaDoorCards
import Derived.Test.YthbbconeiafhpaaDoorTie
import Derived.ChangeMaps5
import Derived.WalkKit
import Derived.ProofKit
import Derived.OpenShut
import Derived.Deep.DeepHandedRow
import Derived.Lib.LaidTab
namespace Go.Proofs.YthbbconeiafhpaaDoor.macroNone
open Go.ChangeShapes Go.WideShapes Go.ChangeAt Go.RowKit

theorem own : ownKnob Tryd.prog.godebug = none := by kernel_rfl
theorem gTab : Tryd.prog.globalNamed "burin/token.signs" = some 3 := by kernel_rfl
theorem gTabType : (Tryd.prog.globals[3]?).map (·.type) = some 168 := by kernel_rfl
theorem cells168 : Tryd.prog.cellsOf 168 = 48 := by kernel_rfl
theorem cells9 : Tryd.prog.cellsOf 9 = 1 := by kernel_rfl
theorem u9 : Tryd.prog.underlying 9 = some .string := by kernel_rfl
theorem u4 : Tryd.prog.underlying 4 = some .bool := by kernel_rfl
theorem u168 : Tryd.prog.underlying 168 = some (.array 48 9) := by kernel_rfl

theorem str_eta (s : ByteArray) : Value.string s = strV s.data.toList := by
  obtain ⟨⟨l⟩⟩ := s
  rfl
/-- AN ARRAY OF STRINGS THAT READS AS THE TABLE HOLDS THE TABLE's STRINGS. -/
theorem cells_of_strs {H : Type} {enc : TypeId × Value → H} {P : Program} {w : World} {base : Nat} {sp : Nat → Bool} {held : Bool} {fuel : Nat} {t e : TypeId} {n : Nat} {cs : List Value} {zs : List (List UInt8)} {p : List MemPlace}
    (ht : P.underlying t = some (.array n e)) (he : P.underlying e = some .string) (hce : P.cellsOf e = 1) (hct : P.cellsOf t = n)
    (h : DataW.trod enc P w base sp held fuel t cs = some (.agg (zs.map fun z => .lit (.string z)), p)) : cs = zs.map strV := by
  cases fuel with
  | zero => simp [DataW.trod] at h
  | succ fuel =>
    simp only [DataW.trod, ht, hce, hct, Nat.mul_one] at h
    split at h
    · rename_i hl
      obtain ⟨xs, hm, hx⟩ := Option.map_eq_some_iff.1 h
      have hxs : xs.map (·.1) = zs.map fun z => (DataW.lit (.string z) : DataW H) := by
        have := congrArg Prod.fst hx
        simpa using this
      have hxl : xs.length = n := by simpa using Lib.mapM_length hm
      have hzl : zs.length = n := by
        have := congrArg List.length hxs
        simp at this
        omega
      apply List.ext_getElem?
      intro i
      by_cases hi : i < n
      · obtain ⟨b, hb, hf⟩ := Lib.mapM_at hm i i (by simp [hi])
        obtain ⟨s, hc, rfl, _⟩ := DataW.trod_string he hf
        have h1 : cs[i]? = some (.string s) := by
          have := congrArg (·[0]?) hc
          simpa [List.getElem?_take, List.getElem?_drop] using this
        have h2 : (xs.map (·.1))[i]? = some (DataW.lit (.string s.data.toList) : DataW H) := by simp [hb]
        rw [hxs] at h2
        simp only [List.getElem?_map, Option.map_eq_some_iff, DataW.lit.injEq, Lit.string.injEq] at h2
        obtain ⟨z', hz', rfl⟩ := h2
        rw [h1, List.getElem?_map, hz', str_eta]
        rfl
      · rw [List.getElem?_eq_none (by omega), List.getElem?_eq_none (by simp; omega)]
    · cases h
theorem laid_eq : Rows.macroNoneRow.laid = [("burin/token.signs", .agg (signsB.map fun z => .lit (.string z)))] := rfl
theorem shapeTab : (((begin Tryd.prog (fun _ _ => 0) default).world.heap[3]?).bind Obj.row?).map (·.2) = some 168 := by kernel_rfl
/-- WHAT THE ROW's LIST GIVES: the table's block. -/
theorem table {W : World} (hs : W.ShapedOpen Tryd.prog) (h : laidMetH Tryd.prog Rows.macroNoneRow.laid W) : W.heap[3]? = some (.cells (signsB.map strV).toArray 168 (0, 0)) := by
  rw [laid_eq] at h
  have h' : laidMet Tryd.prog [("burin/token.signs", .agg (signsB.map fun z => .lit (.string z)))] W := h
  obtain ⟨ps, ⟨g', t', cs, fuel, p, q, hg', ht', hvar, hd, _, _⟩, _⟩ := h'
  obtain rfl := Option.some.inj (gTab.symm.trans hg')
  obtain rfl := Option.some.inj (gTabType.symm.trans ht')
  have hcs := cells_of_strs u168 u9 cells9 cells168 hd
  have hsh : ∃ zero, ((begin Tryd.prog (fun _ _ => 0) default).world.heap[3]?).bind Obj.row? = some (zero, 168) := by
    have := shapeTab
    obtain ⟨⟨z, t⟩, h1, h2⟩ := Option.map_eq_some_iff.1 this
    simp only at h2
    subst h2
    exact ⟨z, h1⟩
  obtain ⟨zero, hz⟩ := hsh
  obtain ⟨cs2, hcs2, _⟩ := hs.1 3 zero 168 (of_decide_eq_true (by kernel_rfl)) hz
  have hv : W.var? Tryd.prog "burin/token.signs" = some cs2 := by
    unfold World.var?
    rw [gTab]
    simp [hcs2]
  obtain rfl : cs = cs2 := Option.some.inj (hvar.symm.trans hv)
  rw [hcs2]
  obtain ⟨l⟩ := cs
  simp only at hcs
  rw [hcs]

/-- The post where no place is read behind an argument. -/
theorem post_of_none {H : Type} {enc : TypeId × Value → H} {P : Program} {f : Func} {s : ChangeSpec} {apart fresh handsOn again : Bool} {W W' : World} {args : Array Value} {v : Value} {ds gs : List (DataW H)}
    (hW : DataW.Whole enc P f.params.toList s.vars apart W args.toList ds gs [])
    (hres : ∀ (b : Nat) (sp : Nat → Bool) (hd : Bool), DataW.TrodAll enc P W' b sp hd f.resultTypes.toList (v.resultList f.resultTypes.size) (s.fn H (ds ++ gs)).results [])
    (hargs : ∀ sp : Nat → Bool, DataW.TrodAll enc P W' 0 sp true f.params.toList args.toList (s.fn H (ds ++ gs)).args [])
    (hvars : ∀ sp : Nat → Bool, DataW.TrodVars enc P W' sp s.vars (s.fn H (ds ++ gs)).vars [])
    (hk : W.keptBut W' (· ∈ ([] : List MemPlace)))
    (hok : ∀ (j : Nat) (t : TypeId) (r : Value), f.resultTypes[j]? = some t → (v.resultList f.resultTypes.size)[j]? = some r → Value.okWide P W' .any 0 t r) :
    s.post enc P f apart fresh handsOn again W args v W' := by
  refine ⟨ds, gs, [], [], [], [], hW, hres _ _ _, hargs _, hvars _, World.keptBut_mono (fun p hp => (by cases hp)) hk, fun _ => ?_⟩
  refine ⟨hok, _, _, ([] ++ []) ++ [], ⟨[] ++ [], [], trodAll_append (hargs _) (hres _ _ _), hvars _, rfl, ?_, ?_⟩, ?_⟩
  · intro b off hp
    simp at hp
  · intro ha
    exact List.nodup_nil
  · intro p hp _
    simp at hp

set_option maxRecDepth 100000 in
theorem contract (H : Type) (enc : TypeId × Value → H) (W : World) (base : Nat) (args : Array Value) (ds gs : List (DataW H)) (before : List MemPlace)
    (hval : ∀ (j : Nat) t v, Tryd.f4.params[j]? = some t → args[j]? = some v → Value.okWide Tryd.prog W .any base t v)
    (hW : DataW.Whole enc Tryd.prog Tryd.f4.params.toList Rows.macroNoneSpec.vars false W args.toList ds gs before) (hL : laidMetH Tryd.prog Rows.macroNoneRow.laid W) (hsh : W.ShapedOpen Tryd.prog) :
    Calls Tryd.prog 4 args W fun e W' => ∃ v, e = .returned v ∧ Rows.macroNoneSpec.post enc Tryd.prog Tryd.f4 false true false false W args v W' := by
  have hW' := hW
  obtain ⟨p, q, hA0, hV, rfl, hfz, hnd⟩ := hW
  have hA : DataW.TrodAll enc Tryd.prog W 0 (fun _ => true) true Tryd.f4.params.toList args.toList ds p := hA0
  rw [Tryd.params4] at hA hval
  obtain ⟨v0, vs0, d0, ds0, p0, q0, hargs, rfl, rfl, h0, r0⟩ := trodAll_cons hA
  obtain ⟨rfl, rfl, rfl⟩ := trodAll_nil r0
  obtain rfl : args = #[v0] := by cases args; simp_all
  obtain ⟨rfl, rfl⟩ := trodVars_none hV
  obtain ⟨s, rfl, rfl, rfl, hs⟩ := Go.ChangeMaps.open_string u9 (hval 0 9 v0 rfl rfl) h0
  clear hA0
  simp only [List.append_nil] at hW'
  refine (walk s W (table hsh hL)).mono fun e W' ⟨he, hg⟩ => ?_
  subst he
  exact ⟨_, rfl, post_of_none hW' (fun _ _ _ => trodAll_cons_mk (shut_bool u4 _) trodAll_mk0) (fun _ => trodAll_cons_mk (Go.ChangeMaps.shut_string u9 hs) trodAll_mk0) (fun _ => rfl)
    (hg.frame _) (ok_one (by kernel_rfl) rfl (okWide_bool_mk u4 _))⟩
end Go.Proofs.YthbbconeiafhpaaDoor.macroNone
