/- The frame of all laws of this seat: what the rows' list gives, a world for the witness, what is left behind the call. -/
import Derived.Test.YtjkgindlbecfnaaDoorLxE
import Derived.Test.YtjkgindlbecfnaaDoorCards
import Derived.Test.YtjkgindlbecfnaaDoorTie
import Derived.WalkKit
import Derived.ProofKit
import Derived.OpenShut
import Derived.ChangeMaps5
import Derived.Deep.DeepHandedRow
import Derived.Lib.LaidTab
namespace Go.Proofs.YtjkgindlbecfnaaDoor
open Go.Sx Go.ChangeShapes Go.WideShapes Go.ChangeAt Go.RowKit Go.ChangeMaps
theorem own : ownKnob Tryd.prog.godebug = none := by kernel_rfl
/-- an array of texts that reads as a list holds it, cell for cell -/
theorem cells_of_texts {H : Type} {enc : TypeId × Value → H} {P : Program} {w : World} {base : Nat} {sp : Nat → Bool} {held : Bool} {fuel : Nat} {t e : TypeId} {n : Nat} {cs : List Value} {zs : List (List UInt8)} {p : List MemPlace}
    (ht : P.underlying t = some (.array n e)) (he : P.underlying e = some .string) (hce : P.cellsOf e = 1) (hct : P.cellsOf t = n)
    (h : DataW.trod enc P w base sp held fuel t cs = some (.agg (zs.map fun z => .lit (.string z)), p)) : cs = zs.map S := by
  cases fuel with
  | zero => simp [DataW.trod] at h
  | succ fuel =>
    simp only [DataW.trod, ht, hce, hct, Nat.mul_one] at h
    split at h
    · rename_i hl
      obtain ⟨xs, hm, hx⟩ := Option.map_eq_some_iff.1 h
      have hxs : xs.map (·.1) = zs.map fun z => (DataW.lit (.string z) : DataW H) := by
        have := congrArg Prod.fst hx
        simpa using this
      have hxl : xs.length = n := by simpa using Lib.mapM_length hm
      have hzl : zs.length = n := by
        have := congrArg List.length hxs
        simp at this
        omega
      apply List.ext_getElem?
      intro i
      by_cases hi : i < n
      · obtain ⟨b, hb, hf⟩ := Lib.mapM_at hm i i (by simp [hi])
        obtain ⟨z, hc, rfl, _⟩ := DataW.trod_string he hf
        have h1 : cs[i]? = some (.string z) := by
          have := congrArg (·[0]?) hc
          simpa [List.getElem?_take, List.getElem?_drop] using this
        have h2 : (xs.map (·.1))[i]? = some (DataW.lit (.string z.data.toList) : DataW H) := by simp [hb]
        rw [hxs] at h2
        simp only [List.getElem?_map, Option.map_eq_some_iff, DataW.lit.injEq, Lit.string.injEq] at h2
        obtain ⟨z', hz', hzz⟩ := h2
        simp [h1, hz', S, hzz]
      · rw [List.getElem?_eq_none (by omega), List.getElem?_eq_none (by simp; omega)]
    · cases h
theorem words_of_laid {W : World} (h : laidMetH Tryd.prog Rows.lexCutsRow.laid W) : WordsOk W := by
  obtain ⟨ps, ⟨g', t', cs, fuel, p, q, hg', ht', hvar, hd, _, _⟩, _⟩ := (show laidMet Tryd.prog [("exchequer/lex.words", Rows.laid_exchequer_lex_words)] W from h)
  obtain rfl := Option.some.inj ((show Tryd.prog.globalNamed "exchequer/lex.words" = some 0 by kernel_rfl).symm.trans hg')
  obtain rfl := Option.some.inj ((show (Tryd.prog.globals[0]?).map (·.type) = some 50 by kernel_rfl).symm.trans ht')
  have hcs := cells_of_texts (zs := wordsL) (n := 36) (t := 50) (e := 9) (by kernel_rfl) (by kernel_rfl) (by kernel_rfl) (by kernel_rfl) hd
  refine ⟨rfl, some ⟨0, 0, none⟩, 36, rfl, .inr ⟨0, 0, rfl, by decide, fun j u hu => ?_⟩⟩
  have := World.var?_cell hg' hvar j
  rw [Nat.zero_add, this]
  rw [← Array.getElem?_toList, hcs]
  exact hu
theorem rds_below {v : Value} {sz n : Nat} {xs : List Value} {w w' : World} (h : RdS v sz n xs w) (hb : Below w.heap.size w w') : RdS v sz n xs w' := by
  obtain ⟨h1, a, c, h2, h3⟩ := h
  refine ⟨h1, a, c, h2, h3.imp id ?_⟩
  rintro ⟨b, off, rfl, hn, hc⟩
  refine ⟨b, off, rfl, hn, fun j u hu => ?_⟩
  have h4 := hc j u hu
  rw [hb.cell (World.block_lt_of_cell? w _ h4)]
  exact h4
/-- a world in which the words lie -/
noncomputable def laidWorld (os : Os) : World :=
  { World.holding Tryd.prog os ⟨#[], #[], []⟩ with heap := (World.holding Tryd.prog os ⟨#[], #[], []⟩).heap.modify 0 fun
      | .cells _ t frozen => .cells (wordsL.map S).toArray t frozen
      | o => o }
/-- what is left: the arguments are as they were, the answer is true -/
theorem post_true {H : Type} {enc : TypeId × Value → H} {f : Func} {s : ChangeSpec} {W W' : World} {args : Array Value} {ds : List (DataW H)}
    (hr : f.resultTypes = #[4]) (hv : s.vars = []) (hf : ∀ gs, gs = [] → (s.fn H (ds ++ gs)).results = [.lit (.bool true)] ∧ (s.fn H (ds ++ gs)).args = ds ∧ (s.fn H (ds ++ gs)).vars = [])
    (hW : DataW.Whole enc Tryd.prog f.params.toList s.vars false W args.toList ds [] [])
    (ha : DataW.TrodAll enc Tryd.prog W' 0 (fun b => decide (b < W.heap.size)) true f.params.toList args.toList ds [])
    (hb : Below W.heap.size W W') : s.post enc Tryd.prog f false true false false W args (.bool true) W' := by
  obtain ⟨h1, h2, h3⟩ := hf [] rfl
  refine ⟨ds, [], [], [], [], [], hW, ?_, ?_, ?_, hb.frame _, fun h => by cases h⟩
  · rw [h1, hr]
    exact trodAll_cons_mk (shut_bool Tryd.underlying4 _) trodAll_mk0
  · rw [h2]; exact ha
  · rw [h3, hv]; exact rfl
end Go.Proofs.YtjkgindlbecfnaaDoor
