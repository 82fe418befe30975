/- Operations that change something. -/
import Derived.Test.YtmlgkojmbnjfbaaDoorA8
import Derived.Laws.OwnMore
import Derived.Deep.Upon
namespace Go.Proofs.YtmlgkojmbnjfbaaDoor.A
open Go

section
variable {P : Program} {T : Tab} {ρ : Nat → Value} {c : Cx}

/-- Where an appended slice lies. -/
theorem append_where (w : World) (t ty e : TypeId) (i : TypeInfo) (z : Value) (ht : P.underlying t = some (.slice e)) (hi : P.info? e = some i) (hz : i.zero = some z)
    {v : Value} {n : Nat} {xs : List Value} (hown : w.ownsRow 0 e i.size v n xs) {a : Addr} {m k : Nat} {news : List Value} (hl : news.length = m * i.size) (hnews : ∀ j u, news[j]? = some u → w.cell? (a.add j) = some u) (h1 : ∀ u ∈ news, u.oneCell' = true)
    (h63 : n + m ≤ maxLen) (hbytes : (n + m) * i.bytes ≤ 140737488355328) {v' : Value} {w' : World} (hr : (Builtin.append_ #[t, t] ty #[v, .slice (some a) m k]).run P w = .ok v' w') :
    v'.ownBlock = v.ownBlock ∨ ∀ g, v'.ownBlock = some g → w.heap.size ≤ g := by
  have hsmall : n + m ≤ 9223372036854775807 := by simp only [maxLen] at h63; omega
  rcases hown.2 with ⟨rfl, rfl⟩ | ⟨g, cap, cur, rfl, hbg, hg, hnc, hcm, hcs, htake⟩
  · by_cases hm : m = 0
    · subst hm
      have hn : news = [] := List.eq_nil_of_length_eq_zero (by simpa using hl)
      have : (Builtin.append_ #[t, t] ty #[.slice none 0 0, .slice (some a) 0 k]).run P w = .ok (.slice none 0 0) w := by
        simp [Builtin.append_, run_underlying ht, sizeOf, typeInfo, hi, Builtin.lenOf, Builtin.firstCells, loadCells, loadCellsFrom]
      rw [this] at hr
      cases hr
      exact .inl rfl
    · have h2 := run_append_nil (P := P) w t ty e i z ht hi hz a m k news hl hnews (by omega) (by omega) (by simp at hbytes; omega)
      rw [h2] at hr
      cases hr
      exact .inr fun g hg => by cases hg; exact Nat.le_refl _
  · by_cases hroom : n + m ≤ cap
    · have hfit : n * i.size + news.length ≤ cur.size := by rw [hl, hcs, ← Nat.add_mul]; exact Nat.mul_le_mul_right _ hroom
      have h2 := run_append_room (P := P) w t ty e i ht hi g n cap cur hg a m k news hl hnews h1 hroom hfit
      rw [h2] at hr
      cases hr
      exact .inl rfl
    · have h2 := run_append_grow (P := P) w t ty e i z ht hi hz ⟨g, 0, none⟩ n cap xs hown.1 (hown.cells (g := g) rfl) a m k news hl hnews (by omega) (by omega) (growslice_fits (by omega) hbytes)
      rw [h2] at hr
      cases hr
      exact .inr fun g hg => by cases hg; exact Nat.le_refl _

/-- What an own (or nil) slice's row is. -/
structure OwnRow (T : Tab) (c : Cx) (F : Nat) (e : TypeId) (xs : List AV) (v : Value) (us : List Value) : Prop where
  row : c.w.ownsRow 0 e (T.size e) v xs.length us
  blk : ∀ g, v.ownBlock = some g → c.fm F = some g
  one : ∀ u ∈ us, u.oneCell' = true
  hs : ∀ (i : Nat) (x : AV), xs[i]? = some x → x.cells.length = T.size e
  hf : ∀ (i : Nat) (x : AV), xs[i]? = some x → ∀ (j : Nat) (y : AV), x.cells[j]? = some y → y.flat = true
  h : ∀ (i : Nat) (x : AV) (j : Nat) (y : AV) (u : Value), xs[i]? = some x → x.cells[j]? = some y → us[i * T.size e + j]? = some u → V T c y u
theorem V.ownRow {F : Nat} {e : TypeId} {xs : List AV} {v : Value} (h : V T c (.sl (.own F) e xs) v) : ∃ us, OwnRow T c F e xs v us := by
  cases h with
  | nilsl => exact ⟨[], World.ownsRow_nil _ _ _ _, fun g hg => by simp [Value.ownBlock] at hg, by simp, by simp, by simp, by simp⟩
  | slo _ _ _ _ g us hF hv ho h1 hs hf h => exact ⟨us, ho, fun g' hg' => by rw [hv] at hg'; cases hg'; exact hF, h1, hs, hf, h⟩
theorem V.nlRow {F : Nat} {e0 e : TypeId} {xs : List AV} {v : Value} (h : V T c (.sl .nl e0 xs) v) : xs = [] ∧ OwnRow T c F e [] v [] := by
  cases h with
  | nilsl => exact ⟨rfl, World.ownsRow_nil _ _ _ _, fun g hg => by simp [Value.ownBlock] at hg, by simp, by simp, by simp, by simp⟩

/-- What any slice's cells are. -/
structure SrcRow (T : Tab) (c : Cx) (e : TypeId) (ys : List AV) (a : Addr) (us : List Value) : Prop where
  len : us.length = ys.length * T.size e
  cell : ∀ j u, us[j]? = some u → c.w.cell? (a.add j) = some u
  one : ∀ u ∈ us, u.oneCell' = true
  hs : ∀ (i : Nat) (x : AV), ys[i]? = some x → x.cells.length = T.size e
  hf : ∀ (i : Nat) (x : AV), ys[i]? = some x → ∀ (j : Nat) (y : AV), x.cells[j]? = some y → y.flat = true
  h : ∀ (i : Nat) (x : AV) (j : Nat) (y : AV) (u : Value), ys[i]? = some x → x.cells[j]? = some y → us[i * T.size e + j]? = some u → V T c y u
theorem V.srcRow {t : Tag} {e : TypeId} {ys : List AV} {v : Value} (h : V T c (.sl t e ys) v) : (ys = [] ∧ v = .slice none 0 0) ∨ ∃ a k us, v = .slice (some a) ys.length k ∧ SrcRow T c e ys a us := by
  cases h with
  | nilsl => exact .inl ⟨rfl, rfl⟩
  | slf _ _ g o cap us hz hc hm hu hr h1 hs hf h =>
    refine .inr ⟨⟨g, o, none⟩, cap, us, rfl, hu, fun j u hj => ?_, h1, hs, hf, h⟩
    have := hr j u hj
    rwa [show (⟨g, o, none⟩ : Addr).add j = ⟨g, o + j, none⟩ from by unfold Addr.add; split <;> simp_all]
  | slo F _ _ _ g us hF hv ho h1 hs hf h =>
    have hcell := ho.cells (g := g) hv
    have hlen := ho.1
    rcases ho.2 with ⟨rfl, h0⟩ | ⟨g', cap, cur, rfl, _⟩
    · simp [Value.ownBlock] at hv
    · obtain rfl : g' = g := by simpa [Value.ownBlock] using hv
      exact .inr ⟨⟨g', 0, none⟩, cap, us, rfl, hlen, hcell, h1, hs, hf, h⟩

/-- Rows one behind the other. -/
theorem rows_append {c' : Cx} {e : TypeId} {xs ys : List AV} {us vs : List Value} (hl : us.length = xs.length * T.size e)
    (hsx : ∀ (i : Nat) (x : AV), xs[i]? = some x → x.cells.length = T.size e) (hx : ∀ (i : Nat) (x : AV) (j : Nat) (y : AV) (u : Value), xs[i]? = some x → x.cells[j]? = some y → us[i * T.size e + j]? = some u → V T c' y u)
    (hy : ∀ (i : Nat) (x : AV) (j : Nat) (y : AV) (u : Value), ys[i]? = some x → x.cells[j]? = some y → vs[i * T.size e + j]? = some u → V T c' y u) :
    ∀ (i : Nat) (x : AV) (j : Nat) (y : AV) (u : Value), (xs ++ ys)[i]? = some x → x.cells[j]? = some y → (us ++ vs)[i * T.size e + j]? = some u → V T c' y u := by
  intro i x j y u h1 h2 h3
  by_cases hi : i < xs.length
  · rw [List.getElem?_append_left hi] at h1
    have hj : j < T.size e := by
      have := (List.getElem?_eq_some_iff.1 h2).1
      rwa [hsx i x h1] at this
    have hm : i * T.size e + T.size e ≤ xs.length * T.size e := by
      have := Nat.mul_le_mul_right (T.size e) (show i + 1 ≤ xs.length from hi)
      rwa [Nat.succ_mul] at this
    rw [List.getElem?_append_left (by omega)] at h3
    exact hx i x j y u h1 h2 h3
  · have hge : xs.length ≤ i := by omega
    rw [List.getElem?_append_right hge] at h1
    have hm : xs.length * T.size e ≤ i * T.size e := Nat.mul_le_mul_right _ hge
    rw [List.getElem?_append_right (by omega)] at h3
    refine hy (i - xs.length) x j y u h1 h2 ?_
    rw [Nat.sub_mul, ← hl]
    rwa [show i * T.size e + j - us.length = i * T.size e - us.length + j by omega] at h3
theorem forall_append {α : Type} {xs ys : List α} {p : α → Prop} (hx : ∀ (i : Nat) (x : α), xs[i]? = some x → p x) (hy : ∀ (i : Nat) (x : α), ys[i]? = some x → p x) : ∀ (i : Nat) (x : α), (xs ++ ys)[i]? = some x → p x := by
  intro i x h
  rcases List.mem_append.1 (List.mem_of_getElem? h) with h | h
  · obtain ⟨j, hj⟩ := List.getElem?_of_mem h; exact hx j x hj
  · obtain ⟨j, hj⟩ := List.getElem?_of_mem h; exact hy j x hj

/-- append. -/
theorem append_sound (hT : TabOk P T) {s : St} {a : Act} (hR : Rel T ρ c s a) {t ty e e' : TypeId} (ht : T.desc t = .slice e) {F : Nat} {tag : Tag} {xs ys : List AV} {v v' : Value} {us : List Value} (hx : OwnRow T c F e xs v us) (hy : V T c (.sl tag e' ys) v')
    (he : e = e' ∨ ys = []) (hsz : 1 ≤ T.size e) (hby : 1 ≤ T.bytes e) (hfit : (xs.length + ys.length) * T.bytes e ≤ 140737488355328) (dst : Option Tmp) (hd : ∀ d', dst = some d' → d' < a.tmps.size ∧ d' < 1000000) :
    ∃ r w' c', (Builtin.append_ #[t, t] ty #[v, v']).run P c.w = .ok r w' ∧ c'.w = w' ∧ Step c c' ∧ KeepsB c c' .non .all ∧ Rel T ρ c' ((s.mapA (drpF F)).put dst (.sl (.own F) e (xs ++ ys))) (a.put dst r) := by
  obtain ⟨h1, h2⟩ := hT.slice t e ht
  obtain ⟨i, z, hi, hisz, hiby, hiz, hzs, _⟩ := hT.info e h2
  have done : ∀ r w', (Builtin.append_ #[t, t] ty #[v, v']).run P c.w = .ok r w' → ∀ news : List Value, w'.ownsRow 0 e (T.size e) r (xs.length + ys.length) (us ++ news) → c.w.grownBy w' v.ownBlock → (r.ownBlock = v.ownBlock ∨ ∀ g, r.ownBlock = some g → c.w.heap.size ≤ g) →
      (∀ u ∈ news, u.oneCell' = true) → (∀ (i : Nat) (x : AV), ys[i]? = some x → x.cells.length = T.size e) → (∀ (i : Nat) (x : AV), ys[i]? = some x → ∀ (j : Nat) (y : AV), x.cells[j]? = some y → y.flat = true) →
      (∀ (i : Nat) (x : AV) (j : Nat) (y : AV) (u : Value), ys[i]? = some x → x.cells[j]? = some y → news[i * T.size e + j]? = some u → V T c y u) →
      ∃ r w' c', (Builtin.append_ #[t, t] ty #[v, v']).run P c.w = .ok r w' ∧ c'.w = w' ∧ Step c c' ∧ KeepsB c c' .non .all ∧ Rel T ρ c' ((s.mapA (drpF F)).put dst (.sl (.own F) e (xs ++ ys))) (a.put dst r) := by
    intro r w' hr news hrow hg hwhere hone hys hyf hyV
    have hF : ∀ g, g < c.w.heap.size → c.fm F ≠ some g → w'.heap[g]? = c.w.heap[g]? := fun g hg' hn => hg.block g hg' (fun e => hn (hx.blk g e.symm))
    have hopt : ∀ g, r.ownBlock = some g → g < w'.heap.size ∧ (c.fm F = some g ∨ c.w.heap.size ≤ g) := fun g hg' => ⟨(hrow.lt g hg').2, hwhere.elim (fun h => .inl (hx.blk g (h ▸ hg'))) (fun h => .inr (h g hg'))⟩
    obtain ⟨h3, h4⟩ := hR.fam F w' r.ownBlock hg.size hg.os hg.tape hg.output hF hopt
    refine ⟨r, w', _, hr, rfl, h3, ⟨fun b g hb _ => ⟨hb, hF g (hR.ok.blt b g hb) (fun e => hR.ok.bf b F g hb e)⟩, fun _ _ _ h => (by simp [Tch.hits] at h)⟩, h4.put dst hd ?_⟩
    have hZ : ∀ g, c.Z g → c.Z g ∧ w'.heap[g]? = c.w.heap[g]? := fun g hg' => ⟨hg', hF g (hR.ok.zlt g hg') (fun e => hR.ok.zf F g e hg')⟩
    rcases hrow.2 with ⟨rfl, h0⟩ | ⟨g, cap, cur, rfl, _⟩
    · have : xs ++ ys = [] := List.eq_nil_of_length_eq_zero (by rw [List.length_append]; exact h0)
      rw [this]
      exact .nilsl _ _
    · refine .slo F e _ _ g (us ++ news) (upd_eq _ _ _) rfl (by rw [List.length_append]; exact hrow) ?_ (forall_append hx.hs hys) ?_ ?_
      · intro u hu
        exact (List.mem_append.1 hu).elim (hx.one u) (hone u)
      · intro i x hi
        exact forall_append (p := fun x => ∀ (j : Nat) (y : AV), x.cells[j]? = some y → y.flat = true) hx.hf hyf i x hi
      · exact rows_append (c' := ⟨w', c.Z, c.bk, upd c.fm F _⟩) hx.row.1 hx.hs (fun i x j y u a b d => (hx.h i x j y u a b d).flat_move hZ (hx.hf i x a j y b)) (fun i x j y u a b d => (hyV i x j y u a b d).flat_move hZ (hyf i x a j y b))
  have h63 : xs.length + ys.length ≤ maxLen := by
    have := Nat.le_mul_of_pos_right (xs.length + ys.length) hby
    simp only [maxLen]
    omega
  rcases hy.srcRow with ⟨rfl, rfl⟩ | ⟨ad, k, news, rfl, hrow⟩
  · have hsrc : Src P i.size t (.slice none 0 0) 0 [] c.w := Src.ofNil c.w h1 0
    obtain ⟨base, sl, sc, rfl, hle⟩ : ∃ base sl sc, v = .slice base sl sc ∧ sl ≤ sc := by
      rcases hx.row.2 with ⟨rfl, _⟩ | ⟨g, cap, cur, rfl, _, _, hc, _⟩
      · exact ⟨_, _, _, rfl, Nat.le_refl _⟩
      · exact ⟨_, _, _, rfl, hc⟩
    have hr := run_append_nothing (P := P) c.w t t ty e i h1 hi base sl sc hle (.slice none 0 0) hsrc
    exact done _ _ hr [] (by simpa using hx.row) ⟨rfl, rfl, rfl, Nat.le_refl _, fun _ _ _ => rfl⟩ (.inl rfl) (by simp) (by simp) (by simp) (by simp)
  · have fin : ∀ news : List Value, news.length = ys.length * T.size e → (∀ j u, news[j]? = some u → c.w.cell? (ad.add j) = some u) → (∀ u ∈ news, u.oneCell' = true) → (∀ (i : Nat) (x : AV), ys[i]? = some x → x.cells.length = T.size e) → (∀ (i : Nat) (x : AV), ys[i]? = some x → ∀ (j : Nat) (y : AV), x.cells[j]? = some y → y.flat = true) →
      (∀ (i : Nat) (x : AV) (j : Nat) (y : AV) (u : Value), ys[i]? = some x → x.cells[j]? = some y → news[i * T.size e + j]? = some u → V T c y u) →
      ∃ r w' c', (Builtin.append_ #[t, t] ty #[v, .slice (some ad) ys.length k]).run P c.w = .ok r w' ∧ c'.w = w' ∧ Step c c' ∧ KeepsB c c' .non .all ∧ Rel T ρ c' ((s.mapA (drpF F)).put dst (.sl (.own F) e (xs ++ ys))) (a.put dst r) := fun news k1 k2 k3 k4 k5 k6 => by
      obtain ⟨r, w', hr, hrow', hg, _⟩ := run_append_own (P := P) c.w 0 t ty e i z (T.size e) (T.bytes e) h1 hi hiz hisz hiby hzs hsz v xs.length us hx.row ad ys.length k news k1 k2 k3 h63 hfit (Nat.zero_le _)
      have hwh := append_where c.w t ty e i z h1 hi hiz (hisz ▸ hx.row) (hisz ▸ k1) k2 k3 h63 (hiby ▸ hfit) hr
      exact done r w' hr news hrow' hg hwh k3 k4 k5 k6
    rcases he with rfl | rfl
    · exact fin news hrow.len hrow.cell hrow.one hrow.hs hrow.hf hrow.h
    · exact fin [] (by simp) (by simp) (by simp) (by simp) (by simp) (by simp)
end
end Go.Proofs.YtmlgkojmbnjfbaaDoor.A
