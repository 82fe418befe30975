/- Bytes that come in as arguments. -/
import Derived.Test.YtbpcofnhndgoeaaDoorGI
import Derived.Test.YtbpcofnhndgoeaaDoorB0
import Derived.Test.YtbpcofnhndgoeaaDoorJ3
import Derived.WideShapes
import Derived.Test.YtbpcofnhndgoeaaDoorRows
namespace Go.Proofs.YtbpcofnhndgoeaaDoor.A
open Go Q
set_option maxRecDepth 200000
theorem all_of1 {α β : Type} {f : β → α} {P : α → Prop} {g : β → Prop} (h : ∀ x, P x → ∃ a, x = f a ∧ g a) : ∀ (l : List α), (∀ x ∈ l, P x) → ∃ zs : List β, l = zs.map f ∧ ∀ a ∈ zs, g a
  | [], _ => ⟨[], rfl, fun a h => by simp at h⟩
  | x :: xs, hl => by
    obtain ⟨a, rfl, ha⟩ := h x (hl x (List.mem_cons_self ..))
    obtain ⟨zs, rfl, has⟩ := all_of1 h xs (fun y hy => hl y (List.mem_cons_of_mem _ hy))
    refine ⟨a :: zs, rfl, fun b hb => ?_⟩
    rcases List.mem_cons.1 hb with rfl | hb
    · exact ha
    · exact has b hb
theorem rows_of1 {α : Type} {t : TypeId} {ks : List LK} {f : α → AV} {g : α → Prop} (h : ∀ r, FitA ks r → ∃ a, wrapT tab t r = f a ∧ g a) (rows : List (List AV)) (hr : ∀ r ∈ rows, FitA ks r) : ∃ zs : List α, rows.map (wrapT tab t) = zs.map f ∧ ∀ a ∈ zs, g a :=
  all_of1 (P := fun x => ∃ r, FitA ks r ∧ wrapT tab t r = x) (fun x ⟨r, h1, h2⟩ => h2 ▸ h r h1) _ (fun x hx => by
    obtain ⟨r, hm, rfl⟩ := List.mem_map.1 hx
    exact ⟨r, hr r hm, rfl⟩)
theorem fit1 {k : IntKind} {ks : List LK} {r : List AV} (h : FitA (.int k :: ks) r) : ∃ n r', r = .int k n :: r' ∧ (Lit.int k n).wf = true ∧ FitA ks r' := by
  cases r with
  | nil => exact h.elim
  | cons v vs =>
    obtain ⟨⟨n, rfl, hw⟩, h2⟩ := h
    exact ⟨n, vs, rfl, hw, h2⟩
theorem fit0 {r : List AV} (h : FitA [] r) : r = [] := by
  cases r with
  | nil => rfl
  | cons _ _ => exact h.elim
theorem kindsU8 : kindsA tab 6 5 = some [.int .u8] := by kernel_rfl
theorem wf_u8v {n : Int} (h : (Lit.int .u8 n).wf = true) : 0 ≤ n ∧ n ≤ 255 := by
  simp [Lit.wf, IntKind.min, IntKind.max, IntKind.signed, IntKind.bits] at h
  omega
abbrev u8I (n : Int) : Prop := 0 ≤ n ∧ n ≤ 255
theorem u8_in (r : List AV) (h : FitA [.int .u8] r) : ∃ n : Int, wrapT tab 5 r = .int .u8 n ∧ u8I n := by
  obtain ⟨n, r', rfl, hw, h2⟩ := fit1 h
  obtain rfl := fit0 h2
  exact ⟨n, rfl, wf_u8v hw⟩
theorem wf_i8 {n : Int} (h : (Lit.int .i8 n).wf = true) : -128 ≤ n ∧ n < 128 := by
  simp [Lit.wf, IntKind.min, IntKind.max, IntKind.signed, IntKind.bits] at h
  omega
theorem wf_i64 {n : Int} (h : (Lit.int .i64 n).wf = true) : -9223372036854775808 ≤ n ∧ n < 9223372036854775808 := by
  simp [Lit.wf, IntKind.min, IntKind.max, IntKind.signed, IntKind.bits] at h
  omega
theorem wf_u16 {n : Int} (h : (Lit.int .u16 n).wf = true) : 0 ≤ n ∧ n ≤ 65535 := by
  simp [Lit.wf, IntKind.min, IntKind.max, IntKind.signed, IntKind.bits] at h
  omega
theorem rows_in {H : Type} {enc : TypeId × Value → H} {α : Type} {f : α → AV} {g : α → Prop} {W : World} {t e : TypeId} {n b0 : Nat} {ks : List LK} {v : Value} {d : DataW H} {ps : List MemPlace} (hd : tab.desc t = .slice e) (hk : kindsA tab n e = some ks) (hin : ∀ r, FitA ks r → ∃ a, wrapT tab e r = f a ∧ g a)
    (hok : Value.okWide Tryd.prog W .any b0 t v) (h : DataW.Trod enc Tryd.prog W 0 (fun _ => true) true t v d ps) :
    ∃ l : List α, V tab (cx0 W) (.sl .fz e (l.map f)) v ∧ (∀ p ∈ l, g p) ∧ (l.length = 0 ∨ ∃ elems rest, d = .slice elems rest ∧ elems.length = l.length) := by
  have hu : Tryd.prog.underlying t = some (.slice e) := (tab_is.slice t e hd).1
  obtain ⟨a, len, cap, rfl⟩ := WideShapes.okWide_slice hu hok
  obtain ⟨fuel, hf⟩ := h
  have hok' : Cell.okWide Tryd.prog W .any b0 t (.slice a len cap) := by
    simpa only [Value.okWide, hu] using hok
  obtain ⟨r, h1, h2, _, h4⟩ := slice_cell_in2 (x := (d, ps)) tab_is (e := e) hd hk hok' hf
  obtain ⟨l, e, hl⟩ := rows_of1 hin r h1
  have l0 : r.length = l.length := by simpa using congrArg List.length e
  rw [e] at h2
  exact ⟨l, h2, hl, by rw [← l0]; exact h4⟩
theorem one_le {H : Type} (d : DataW H) : 1 ≤ Rows.uptoBulk d := by
  cases d with
  | lit l => cases l <;> simp [Rows.uptoBulk]
  | nil => simp [Rows.uptoBulk]
  | ptr d => simp [Rows.uptoBulk]
  | slice e s => simp [Rows.uptoBulk]
  | agg l => simp [Rows.uptoBulk]
  | iface _ d => simp [Rows.uptoBulk]
  | map l => simp [Rows.uptoBulk]
  | held _ => simp [Rows.uptoBulk]
theorem part_le {H : Type} {d : DataW H} {l : List (DataW H)} (h : d ∈ l) : Rows.uptoBulk d ≤ Rows.uptoBulkAll l := by
  induction l with
  | nil => cases h
  | cons x r ih =>
    simp only [Rows.uptoBulkAll]
    rcases List.mem_cons.1 h with rfl | h
    · omega
    · have := ih h; omega
theorem length_le {H : Type} (l : List (DataW H)) : l.length ≤ Rows.uptoBulkAll l := by
  induction l with
  | nil => simp [Rows.uptoBulkAll]
  | cons x r ih => have := one_le x; simp only [Rows.uptoBulkAll, List.length_cons]; omega
theorem bulk_len {H : Type} {d : DataW H} {l : List (DataW H)} (hs : Rows.uptoSmall H l = true) (hd : d ∈ l) {elems rest : List (DataW H)} (he : d = .slice elems rest) : elems.length ≤ 1048576 := by
  have h1 : Rows.uptoBulkAll l ≤ 1048576 := of_decide_eq_true hs
  have h2 := part_le hd
  have h3 := length_le elems
  subst he
  simp only [Rows.uptoBulk] at h2
  omega
theorem bytes_in {H : Type} {enc : TypeId × Value → H} {W : World} {b0 : Nat} {v : Value} {d : DataW H} {ps : List MemPlace} (hok : Value.okWide Tryd.prog W .any b0 22 v) (h : DataW.Trod enc Tryd.prog W 0 (fun _ => true) true 22 v d ps) :
    ∃ l : List Int, V tab (cx0 W) (by8 l) v ∧ (∀ p ∈ l, u8I p) ∧ (l.length = 0 ∨ ∃ elems rest, d = .slice elems rest ∧ elems.length = l.length) :=
  rows_in (f := AV.int .u8) (g := u8I) (by kernel_rfl) kindsU8 u8_in hok h
theorem bytesw_in {H : Type} {enc : TypeId × Value → H} {W : World} {b0 : Nat} {v : Value} {d : DataW H} {ps : List MemPlace} (hok : Value.okWide Tryd.prog W .any b0 22 v) (h : DataW.Trod enc Tryd.prog W 0 (fun _ => true) true 22 v d ps)
    (hw : ∀ n ∈ d.weights Tryd.prog 22, n ≤ reachBytes) : ∃ l : List Int, V tab (cx0 W) (by8 l) v ∧ l.length ≤ 4611686018427387904 := by
  have hu : Tryd.prog.underlying 22 = some (.slice 5) := (tab_is.slice 22 5 (by kernel_rfl)).1
  obtain ⟨a, len, cap, rfl⟩ := WideShapes.okWide_slice hu hok
  obtain ⟨fuel, hf⟩ := h
  have hok' : Cell.okWide Tryd.prog W .any b0 22 (.slice a len cap) := by
    simpa only [Value.okWide, hu] using hok
  obtain ⟨r, h1, h2, h3, _⟩ := slice_cell_in2 (x := (d, ps)) tab_is (e := 5) (by kernel_rfl) kindsU8 hok' hf
  obtain ⟨l, e, _⟩ := rows_of1 u8_in r h1
  have l0 : r.length = l.length := by simpa using congrArg List.length e
  rw [e] at h2
  have hb := h3 hw
  have sb : Tryd.prog.bytesOf 5 = 1 := by kernel_rfl
  have hr : reachBytes < 2 ^ 47 := by decide
  rw [sb, l0] at hb
  exact ⟨l, h2, by omega⟩
theorem bytess_in {H : Type} {enc : TypeId × Value → H} {W : World} {b0 : Nat} {v : Value} {d : DataW H} {ps : List MemPlace} (hok : Value.okWide Tryd.prog W .any b0 54 v) (h : DataW.Trod enc Tryd.prog W 0 (fun _ => true) true 54 v d ps)
    (hw : ∀ n ∈ d.weights Tryd.prog 54, n ≤ reachBytes) : ∃ l : List (List Int), V tab (cx0 W) (.sl .fz 22 (l.map by8)) v ∧ l.length ≤ 4611686018427387904 := by
  have hu : Tryd.prog.underlying 54 = some (.slice 22) := (tab_is.slice 54 22 (by kernel_rfl)).1
  obtain ⟨a, len, cap, rfl⟩ := WideShapes.okWide_slice hu hok
  obtain ⟨fuel, hf⟩ := h
  have h8 := plain_el (T := tab) (P := Tryd.prog) (enc := enc) (W := W) (Q := fun r => ∃ n, r = AV.int .u8 n) tab_is kindsU8 fun r hr => by
    obtain ⟨n, h, _⟩ := u8_in r hr
    exact ⟨n, h⟩
  have hel := slices_el (T := tab) (P := Tryd.prog) (enc := enc) (W := W) (t := 22) (e := 5) (Q := fun r => ∃ n, r = AV.int .u8 n) tab_is (by kernel_rfl) (Nat.le_of_eq (show tab.size 5 = 1 by kernel_rfl).symm) (by kernel_rfl) h8
  obtain ⟨rows, h1, h2, h3, _⟩ := slice_gen (T := tab) (P := Tryd.prog) (t := 54) (e := 22) tab_is (by kernel_rfl) (Nat.le_of_eq (show tab.size 22 = 1 by kernel_rfl).symm) hel hf
  obtain ⟨l, rfl, _⟩ := all_of1 (f := by8) (g := fun _ => True) (P := fun r => ∃ rows, r = AV.sl .fz 5 rows ∧ ∀ r ∈ rows, ∃ n, r = AV.int .u8 n) (fun r ⟨rows, hr, ha⟩ => by
    obtain ⟨z, rfl, _⟩ := all_of1 (f := AV.int .u8) (g := fun _ => True) (P := fun r => ∃ n, r = AV.int .u8 n) (fun r ⟨n, hn⟩ => ⟨n, hn, trivial⟩) rows ha
    exact ⟨z, hr, trivial⟩) rows h1
  have hb := h3 hw
  have sb : Tryd.prog.bytesOf 22 = 24 := by kernel_rfl
  have hr : reachBytes < 2 ^ 47 := by decide
  rw [sb, List.length_map] at hb
  exact ⟨l, h2, by omega⟩
/-- The same, and every byte is one. -/
theorem bytesb_in {H : Type} {enc : TypeId × Value → H} {W : World} {b0 : Nat} {v : Value} {d : DataW H} {ps : List MemPlace} (hok : Value.okWide Tryd.prog W .any b0 54 v) (h : DataW.Trod enc Tryd.prog W 0 (fun _ => true) true 54 v d ps)
    (hw : ∀ n ∈ d.weights Tryd.prog 54, n ≤ reachBytes) : ∃ l : List (List Int), V tab (cx0 W) (.sl .fz 22 (l.map by8)) v ∧ (∀ r ∈ l, ∀ p ∈ r, u8I p) ∧ l.length ≤ 4611686018427387904 := by
  have hu : Tryd.prog.underlying 54 = some (.slice 22) := (tab_is.slice 54 22 (by kernel_rfl)).1
  obtain ⟨a, len, cap, rfl⟩ := WideShapes.okWide_slice hu hok
  obtain ⟨fuel, hf⟩ := h
  have h8 := plain_el (T := tab) (P := Tryd.prog) (enc := enc) (W := W) (Q := fun r => ∃ n, r = AV.int .u8 n ∧ u8I n) tab_is kindsU8 fun r hr => by
    obtain ⟨n, h, h'⟩ := u8_in r hr
    exact ⟨n, h, h'⟩
  have hel := slices_el (T := tab) (P := Tryd.prog) (enc := enc) (W := W) (t := 22) (e := 5) (Q := fun r => ∃ n, r = AV.int .u8 n ∧ u8I n) tab_is (by kernel_rfl) (Nat.le_of_eq (show tab.size 5 = 1 by kernel_rfl).symm) (by kernel_rfl) h8
  obtain ⟨rows, h1, h2, h3, _⟩ := slice_gen (T := tab) (P := Tryd.prog) (t := 54) (e := 22) tab_is (by kernel_rfl) (Nat.le_of_eq (show tab.size 22 = 1 by kernel_rfl).symm) hel hf
  obtain ⟨l, rfl, hb8⟩ := all_of1 (f := by8) (g := fun r => ∀ p ∈ r, u8I p) (P := fun r => ∃ rows, r = AV.sl .fz 5 rows ∧ ∀ r ∈ rows, ∃ n, r = AV.int .u8 n ∧ u8I n) (fun r ⟨rows, hr, ha⟩ => by
    obtain ⟨z, rfl, hz⟩ := all_of1 (f := AV.int .u8) (g := u8I) (P := fun r => ∃ n, r = AV.int .u8 n ∧ u8I n) (fun r ⟨n, hn, hu⟩ => ⟨n, hn, hu⟩) rows ha
    exact ⟨z, hr, hz⟩) rows h1
  have hb := h3 hw
  have sb : Tryd.prog.bytesOf 22 = 24 := by kernel_rfl
  have hr : reachBytes < 2 ^ 47 := by decide
  rw [sb, List.length_map] at hb
  exact ⟨l, h2, hb8, by omega⟩
end Go.Proofs.YtbpcofnhndgoeaaDoor.A
