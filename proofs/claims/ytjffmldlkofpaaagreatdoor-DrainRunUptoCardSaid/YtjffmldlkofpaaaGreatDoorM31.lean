/- engine: an event on the machine: submit, step, end. -/
import Derived.Test.YtjffmldlkofpaaaGreatDoorM30
namespace Go.Proofs.YtjffmldlkofpaaaGreatDoor.A
open Go Q
theorem submit_ok : FnOk Tryz.prog tab 37 (machC submitM) := submit_ok0.frzB.mono (by
  rintro args bs K ⟨s, e, rfl, rfl, hz, hK⟩
  exact ⟨s, e, rfl, rfl, hz, ⟨[130000], _, _, rfl, rfl, hK⟩, ⟨[130000], _, _, rfl, rfl, hK⟩⟩)
/-! ### end: the saga goes, its key is told -/
abbrev endM (s : Sta) (k : Nat) (l : List Kno) : Sta := ⟨s.accs, s.pays, s.sags.eraseIdx k, l, s.now⟩
def endC0 (B : Sta → Box) (args : List AV) (bs : List Box) (K : AV → List Box → Prop) : Prop := ∃ (s : Sta) (k : Nat) (g : Sag) (e i : Int) (l : List Kno), bs = [machB s] ∧ args = [dk, .int .i64 k, repA e i] ∧ s.sags[k]? = some g ∧ SzE s ∧ tellM s.kns g.req.key e i = .ok l ∧ K (repA e i) [B (endM s k l)]
def plEn : Nat → Plan
  | 3 => (.take 0 (.take 1 (.take 2 (.take 3 (.take 4 (.take 6 (.take 7 (.last 5 (.last 8 (.take 9 (.take 10 (.take 11 (.take 12 (.take 13 (.take 14 (.last 15 .done))))))))))))))))
  | k => pl70 k
def REn : Contract
  | 51 => tellDC
  | _ => fun _ _ _ => False
theorem REn_ok : CallOk Tryz.prog tab REn := by
  intro f args bs K h
  unfold REn at h
  split at h
  · exact ⟨_, h, tellD_ok⟩
  · exact h.elim
def REn_E (pl : Nat → Plan) : En := ⟨tab, REn, fun _ => none, 0, pl⟩
theorem REn_J (pl : Nat → Plan) : JOk Tryz.prog (REn_E pl).T (REn_E pl).J := fun _ _ h => by cases h
set_option maxRecDepth 200000 in
set_option maxHeartbeats 6400000 in
theorem end_ok0 : FnOk Tryz.prog tab 70 (endC0 (machBo 26000)) := by
  refine fn_ok (E := REn_E plEn) tab_is REn_ok (REn_J _) Tryz.func70 rfl rfl (by kernel_rfl) ?_
  rintro args bs K ⟨s, k, g, e, i, l, rfl, rfl, hg, hz, ht, hK⟩
  refine ⟨rfl, ?_⟩
  have hls := hz.ls
  have hlk := hz.lk
  have hkl : k < s.sags.length := (List.getElem?_eq_some_iff.1 hg).1
  have hw : IntKind.i64.wrap ((k : Int) + 1) = ((k + 1 : Nat) : Int) := by rw [wrap_of (by omega) (by omega)]; rfl
  have hcut : ((s.sags.map sagA).take ((k : Int)).toNat).drop 0 ++ ((s.sags.map sagA).take (s.sags.map sagA).length).drop (IntKind.i64.wrap ((k : Int) + 1)).toNat = (s.sags.eraseIdx k).map sagA := by
    rw [hw, List.take_length, List.drop_zero, show ((k : Int)).toNat = k by omega, show (((k + 1 : Nat) : Int)).toNat = k + 1 by omega, List.eraseIdx_eq_take_drop_succ, List.map_append, List.map_take, List.map_drop]
  unfold machBo at hK
  rw [← hcut] at hK
  have hend := hK
  have hx : (s.sags.map sagA)[((k : Int)).toNat]? = some (sagA g) := by rw [show ((k : Int)).toNat = k by omega]; exact map_of hg
  have bd1 : (((s.sags.map sagA).take ((k : Int)).toNat).drop 0).length * 88 ≤ 140737488355328 := by simp only [List.length_drop, List.length_take, List.length_map]; omega
  have bd2 : ((((s.sags.map sagA).take ((k : Int)).toNat).drop 0).length + (((s.sags.map sagA).take (s.sags.map sagA).length).drop (IntKind.i64.wrap ((k : Int) + 1)).toNat).length) * 88 ≤ 140737488355328 := by simp only [List.length_drop, List.length_take, List.length_map]; omega
  repeat' first
    | (exact hend)
    | (refine ⟨_, Int.natCast_nonneg k, hx, ?_⟩)
    | (refine ⟨Int.natCast_nonneg k, Nat.zero_le _, (by rw [List.length_map]; omega), ?_⟩)
    | (refine ⟨(by rw [hw]; omega), (by rw [hw, List.length_map]; omega), Nat.le_refl _, ?_⟩)
    | (refine ⟨rfl, s.kns, g.req.key, e, i, l, rfl, (by omega), ht, ?_⟩)
    | (refine ⟨bd1, ?_⟩)
    | (refine ⟨bd2, ?_⟩)
    | (refine ⟨fun _ => ?_, fun h => Bool.noConfusion (show true = false from h)⟩)
    | (refine ⟨fun h => Bool.noConfusion (show false = true from h), fun _ => ?_⟩)
    | (refine And.intro ?_ ?_)
abbrev endC := endC0 machB
theorem end_ok : FnOk Tryz.prog tab 70 endC := end_ok0.frzB.mono (by
  rintro args bs K ⟨s, k, g, e, i, l, rfl, rfl, hg, hz, ht, hK⟩
  exact ⟨s, k, g, e, i, l, rfl, rfl, hg, hz, ht, ⟨[26000], _, _, rfl, rfl, hK⟩⟩)
end Go.Proofs.YtjffmldlkofpaaaGreatDoor.A
