/- Ax, part Fs: a package-level map from numbers to texts, as the rows' list lays it; what is left behind a law's call. -/
import Derived.Test.YtlhebakbbfmiiaaDoorAxFr
import Derived.ProofKit
import Derived.ChangeMaps5
import Derived.ChangeAnyMap
namespace Go.Ax
open Go.RowKit Go.ChangeShapes Go.WideShapes
section
variable {H : Type} {enc' : TypeId × Value → H} {P : Program} {w : World} {base : Nat} {sp : Nat → Bool} {held : Bool}
theorem map_of_trod {t k e : TypeId} {fuel : Nat} {cs : List Value} {ps : List MemPlace} (ht : P.underlying t = some (.map k e)) (hk : P.underlying k = some (.int .i64)) (he : P.underlying e = some .string) {l : List (Int × Str)} (hl : ∀ p, p ∈ l → mget l p.1 = p.2) (hno : ∀ n, (∀ p, p ∈ l → p.1 ≠ n) → mget l n = []) (h : DataW.trod enc' P w base sp held fuel t cs = some (.map (l.map fun p => (.int .i64 p.1, .lit (.string p.2))), ps)) : ∃ b es clk, cs = [.map (some b)] ∧ w.heap[b]? = some (.map es clk) ∧ MapIs l es.toList := by
  rcases open_anymap ht h with ⟨_, hx⟩ | ⟨b, es, clock, _, rfl, hb, _, _, _⟩
  · cases hx
  cases fuel with
  | zero => simp [DataW.trod] at h
  | succ n =>
    simp only [DataW.trod, ht, hb] at h
    · split at h
      · obtain ⟨entries, hm, hs⟩ := Option.bind_eq_some_iff.1 h
        split at hs
        · simp only [Option.some.injEq, Prod.mk.injEq, DataW.map.injEq] at hs
          obtain ⟨hs, _⟩ := hs
          have hperm := sorted_perm (entries.map (·.1))
          rw [hs] at hperm
          have hx : ∀ (x : MapEntry) (y : (Lit × DataW H) × List MemPlace), ((keyOf P k x.key).bind fun key => if x.val.formed P e = true then (DataW.trod enc' P w base sp held n e x.val.cells.toList).map fun y => ((key, y.1), y.2) else none) = some y → ∃ (m : Int) (s : ByteArray), x.key = .int .i64 m ∧ x.val = .string s ∧ s.size ≤ maxLen ∧ y.1 = (.int .i64 m, .lit (.string s.data.toList)) := by
            intro x y hy
            obtain ⟨key, hk1, hy⟩ := Option.bind_eq_some_iff.1 hy
            split at hy
            · rename_i hfm
              obtain ⟨z, hz, rfl⟩ := Option.map_eq_some_iff.1 hy
              obtain ⟨s, hs1, rfl, hs3⟩ := DataW.trod_string he hz
              have hv : x.val = .string s := by
                cases hxv : x.val <;> rw [hxv] at hs1 hfm <;> simp [Value.cells] at hs1
                · rw [hs1]
                · simp [Value.formed, he] at hfm
              have hkk : ∃ m, x.key = .int .i64 m ∧ key = .int .i64 m := by
                simp only [keyOf, hk] at hk1
                cases hxk : x.key <;> rw [hxk] at hk1 <;> simp [mapKey, hk] at hk1
                obtain ⟨⟨h1, _⟩, h2⟩ := hk1
                subst h1
                exact ⟨_, rfl, h2.symm⟩
              obtain ⟨m, h1, rfl⟩ := hkk
              exact ⟨m, s, h1, hv, hs3, rfl⟩
            · cases hy
          have hin : ∀ x, x ∈ es.toList → ∃ (m : Int) (s : ByteArray), x.key = .int .i64 m ∧ x.val = .string s ∧ s.size ≤ maxLen ∧ (m, s.data.toList) ∈ l := fun x hxm => by
            obtain ⟨i, hi, rfl⟩ := List.getElem_of_mem hxm
            obtain ⟨y, hy, hf⟩ := Lib.mapM_at hm i _ (List.getElem?_eq_getElem hi)
            obtain ⟨m, s, h1, h2, h3, h4⟩ := hx _ y hf
            refine ⟨m, s, h1, h2, h3, ?_⟩
            have : y.1 ∈ entries.map (·.1) := List.mem_map.2 ⟨y, List.mem_of_getElem? hy, rfl⟩
            have := hperm.symm.subset this
            rw [h4] at this
            obtain ⟨p, hp, e⟩ := List.mem_map.1 this
            simp only [Prod.mk.injEq, Lit.int.injEq, true_and, DataW.lit.injEq, Lit.string.injEq] at e
            obtain ⟨e1, e2⟩ := e
            rw [← e1, ← e2]
            exact hp
          have hout : ∀ p, p ∈ l → ∃ x, x ∈ es.toList ∧ x.key = .int .i64 p.1 := fun p hp => by
            have h1 : (Lit.int .i64 p.1, DataW.lit (H := H) (.string p.2)) ∈ entries.map (·.1) := hperm.subset (List.mem_map.2 ⟨p, hp, rfl⟩)
            obtain ⟨y, hy, e⟩ := List.mem_map.1 h1
            obtain ⟨x, hxm, hf⟩ := mapM_mem hm y hy
            obtain ⟨m, s, h2, _, _, h4⟩ := hx x y hf
            rw [e] at h4
            simp only [Prod.mk.injEq, Lit.int.injEq, true_and] at h4
            exact ⟨x, hxm, by rw [h2, h4.1]⟩
          refine ⟨b, es, clock, rfl, hb, fun n => ?_⟩
          have hik : MapKept.IsKey (.int .i64) (.int .i64 n) := by simp [MapKept.IsKey]
          rcases MapKept.findNow_spec hik es.toList 0 (fun x hxm => by obtain ⟨m, s, h1, _⟩ := hin x hxm; rw [h1]; simp [MapKept.IsKey]) with ⟨h1, h2⟩ | ⟨j, x, h1, h2, h3⟩
          · have : mget l n = [] := hno n fun p hp e => by
              obtain ⟨x, hxm, hk⟩ := hout p hp
              exact h2 x hxm (by rw [hk, e])
            exact ⟨by rw [this]; simp, .inl ⟨h1, this⟩⟩
          · obtain ⟨m, s, g1, g2, g3, g4⟩ := hin x (List.mem_of_getElem? h2)
            have hmn : m = n := by
              rw [g1] at h3
              simpa using h3
            subst hmn
            have hg := hl _ g4
            simp only at hg
            refine ⟨by rw [hg, Array.length_toList]; exact g3, .inr ⟨0 + j, ?_⟩⟩
            rw [h1, g2, hg, Array.toArray_toList]
        · cases hs
      · cases h
end
/-- a world that is none's footprint: facts on what lies in it -/
theorem glR_map {el : Ck → TypeId} {w : World} {g : Nat} {l : List (Int × Str)} {b : Nat} {es : Array MapEntry} {clk : Nat} (h1 : w.cell? ⟨g, 0, none⟩ = some (.map (some b))) (h2 : w.heap[b]? = some (.map es clk)) (h3 : MapIs l es.toList) : GlR (v0 el noFp w) (tbl [(g, .map l)]) := by
  refine ⟨fun g' c xs hg => ?_, fun g' l' hg => ?_⟩
  · simp only [tbl] at hg
    split at hg <;> cases hg
  · simp only [tbl] at hg
    split at hg
    · rename_i hgg
      have hgg := Nat.eq_of_beq_eq_true hgg
      subst hgg
      simp only [Option.some.injEq, Gv.map.injEq] at hg
      subst hg
      have hlt : b < w.heap.size := (Array.getElem?_eq_some_iff.1 h2).1
      exact ⟨b, es, clk, fun w' hw => ⟨hw.cell g 0 _ h1 (fun h => h), by rw [hw.block b hlt (fun _ h => h)]; exact h2⟩, h3⟩
    · cases hg
end Go.Ax
