/- The journal's laws: what they share. -/
import Derived.Test.YtbpcofnhndgoeaaDoorJR6
namespace Go.Proofs.YtbpcofnhndgoeaaDoor.A
open Go Q
noncomputable def plShows : Nat → Plan := pl27
noncomputable def JS_E : En := ⟨tab, fun _ _ _ _ => False, JJ, 2000, plShows⟩
noncomputable def jShows : StSpec := inlJ JS_E Tryd.f27 (bodyOf Tryd.f27)
theorem shows_ok : SOk Tryd.prog tab 27 jShows := inl_ok (E := JS_E) tab_is (fun _ _ _ _ h => h.elim) JJ_ok Tryd.func27 (by kernel_rfl) rfl (by kernel_rfl)
noncomputable def JLw : FuncId → Option StSpec := fun f => if f = 27 then some jShows else JJ f
theorem JLw_ok : JOk Tryd.prog tab JLw := by
  intro f j h
  unfold JLw at h
  split at h
  · rename_i e; cases h; rw [e]; exact shows_ok
  · exact JJ_ok f j h
theorem byteL_take {b : List Int} (h : byteL b) (n : Nat) : byteL (b.take n) := fun c hc => h c (List.mem_of_mem_take hc)
/-- The code behind so many pieces. -/
def rst : Nat → Code → Code
  | n + 1, .seq _ b => rst n b
  | _, c => c
theorem wp_told' {E : En} {c : Code} {Q : Ex → St → Prop} {t : Nat → AV} {h : Nat → Option Box} (l : List (Nat × AV)) (ht : Has t l) (g : wpA E c Q ⟨updL t l, h⟩) : wpA E c Q ⟨t, h⟩ := by
  rw [updL_has t l ht] at g
  exact g
theorem wp_told2 {E : En} {c : Code} {Q : Ex → St → Prop} {t : Nat → AV} {h : Nat → Option Box} (l : List (Nat × AV)) (lb : List (Nat × Option Box)) (ht : Has t l) (hh : Has h lb) (g : wpA E c Q ⟨updL t l, updL h lb⟩) : wpA E c Q ⟨t, h⟩ := by
  rw [updL_has t l ht, updL_has h lb hh] at g
  exact g
theorem toldV {s : St} {d : Option Tmp} {v v' : AV} {K : St → Prop} (h : v = v') (g : s.putF d v' K) : s.putF d v K := h ▸ g
theorem ifT_mk {b : Bool} {p : Prop} (hb : b = true) (h : p) : ifT b p := by rw [hb]; exact h
def fewC1 (args : List AV) (bs : List Box) (K : Kon) : Prop := bs = [] ∧ ∃ rs : List (List Int), args = [bss .fz rs] ∧ rs.length ≤ 4611686018427387904 ∧ K (bss (.own 22000) (fewM rs)) []
theorem few_ok1 : FnOk Tryd.prog tab 28 fewC1 := few_ok.nilT.mono fun _ _ _ ⟨h0, rs, h1, h2, h3⟩ => ⟨h0, rs, h1, h2, fun e => ⟨_, .inl (.inr ⟨_, _, _, rfl, rfl⟩), by rw [e] at h3; exact h3⟩, fun _ => ⟨_, .inl (.inl rfl), h3⟩⟩
/-- A list of texts. -/
abbrev sss (g : Tag) (l : List (List Int)) : AV := .sl g 9 (l.map fun r => .str (strOf r))
def sO (F : Nat) : List (List Int) → AV
  | [] => .sl .nl 0 []
  | l => sss (.own F) l
theorem sO_snoc {F : Nat} {l : List (List Int)} {r : List Int} : sss (.own F) (l ++ [r]) = sO F (l ++ [r]) := by
  cases l <;> rfl
theorem sO_own {F : Nat} {l : List (List Int)} (h : l ≠ []) : sO F l = sss (.own F) l := by
  cases l with
  | nil => exact absurd rfl h
  | cons a l => rfl
theorem few_rec {rs : List (List Int)} (h : ∀ r ∈ rs, byteL r) : ∀ r ∈ fewM rs, Rec r := by
  intro r hr
  have h1 := few_each r hr
  obtain ⟨q, hq, rfl⟩ := List.mem_map.1 hr
  exact ⟨by omega, fun c hc => h q (List.mem_of_mem_take hq) c (List.mem_of_mem_take hc)⟩
theorem frames_few (rs : List (List Int)) : (frames (fewM rs)).length ≤ 6072 := by
  have h1 : ∀ l : List (List Int), (∀ r ∈ l, r.length ≤ 500) → (frames l).length ≤ 506 * l.length := fun l => by
    induction l with
    | nil => intro _; simp [frames]
    | cons r l ih =>
      intro h
      have : frames (r :: l) = frameB r ++ frames l := by simp [frames]
      rw [this, List.length_append, frame_len]
      have h1 := h r (.head _)
      have h2 := ih fun q hq => h q (.tail _ hq)
      simp only [List.length_cons]
      omega
  have := h1 (fewM rs) few_each
  have := few_len rs
  omega
end Go.Proofs.YtbpcofnhndgoeaaDoor.A
