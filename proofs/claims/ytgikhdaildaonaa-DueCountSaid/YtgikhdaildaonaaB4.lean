/- Seat 13: what a heap's functions leave as it was. -/
import Derived.Test.YtgikhdaildaonaaB2
import Derived.Test.YtgikhdaildaonaaP0
namespace Go.Proofs.Ytgikhdaildaonaa.A
open Go P
def itemA (p : P2) : AV := item p.1 p.2
def rowB (l : List P2) : Option Box := some (.cells 47 [.sl (.own 7000) 50 (l.map itemA)])
/-- The row's slice, and what lower frames make, are forgotten. -/
def kil : AV → AV
  | .sl (.own G) e xs => bif Nat.beq G 7000 || Nat.ble 17000000 G then .bad else .sl (.own G) e xs
  | .pe (.own G) e i o cs => bif Nat.beq G 7000 || Nat.ble 17000000 G then .bad else .pe (.own G) e i o cs
  | .ptr b o => bif Nat.ble 17000 b then .bad else .ptr b o
  | .mp b => bif Nat.ble 17000 b then .bad else .mp b
  | v => v
def Cl (v : AV) : Prop := v.tr kil = v
def ClO (o : Option Box) : Prop := ∀ x, o = some x → x.mapA (AV.tr kil) = x
/-- It leaves alone what is not the row's. -/
def Gd (φ : AV → AV) : Prop := ∀ v, kil v = v → φ v = v
mutual
theorem tr_fix {φ : AV → AV} (h : Gd φ) : ∀ v : AV, v.tr kil = v → v.tr φ = v
  | .agg cs, e => by unfold AV.tr at e ⊢; rw [trL_fix h cs (AV.agg.inj e)]
  | .tup cs, e => by unfold AV.tr at e ⊢; rw [trL_fix h cs (AV.tup.inj e)]
  | .ifc t v, e => by unfold AV.tr at e ⊢; rw [tr_fix h v (AV.ifc.inj e).2]
  | .fn f a c, e => by unfold AV.tr at e ⊢; rw [trL_fix h a (AV.fn.inj e).2.1, trL_fix h c (AV.fn.inj e).2.2]
  | .int k n, e => h _ e
  | .bool b, e => h _ e
  | .str s, e => h _ e
  | .ptr b o, e => h _ e
  | .nilptr, e => h _ e
  | .sl g e' xs, e => h _ e
  | .pe g e' i o cs, e => h _ e
  | .nilfn, e => h _ e
  | .nilifc, e => h _ e
  | .mp b, e => h _ e
  | .nilmp, e => h _ e
  | .bad, e => h _ e
theorem trL_fix {φ : AV → AV} (h : Gd φ) : ∀ l : List AV, AV.trL kil l = l → AV.trL φ l = l
  | [], _ => by unfold AV.trL; rfl
  | v :: vs, e => by unfold AV.trL at e ⊢; rw [tr_fix h v (List.cons.inj e).1, trL_fix h vs (List.cons.inj e).2]
end
theorem map_fix {α : Type} {f g : α → α} (h : ∀ x, f x = x → g x = x) : ∀ l : List α, l.map f = l → l.map g = l
  | [], _ => rfl
  | x :: xs, e => by rw [List.map_cons] at e ⊢; rw [h x (List.cons.inj e).1, map_fix h xs (List.cons.inj e).2]
theorem box_fix {φ : AV → AV} (h : Gd φ) (x : Box) (e : x.mapA (AV.tr kil) = x) : x.mapA (AV.tr φ) = x := by
  cases x with
  | cells t cs => exact congrArg (Box.cells t) (map_fix (tr_fix h) cs (Box.cells.inj e).2)
  | mapo es =>
    exact congrArg Box.mapo (map_fix (f := fun p : AV × AV => (p.1, p.2.tr kil)) (g := fun p => (p.1, p.2.tr φ)) (fun p hp => by
      have := (Prod.ext_iff.1 hp).2
      exact Prod.ext_iff.2 ⟨rfl, tr_fix h _ this⟩) es (Box.mapo.inj e))
/-- What is not the row's is as it was. -/
def Fr (s s' : St) : Prop := (∀ j, Cl (s.t j) → s'.t j = s.t j) ∧ ∀ b, b ≠ 8 → b < 17000 → ClO (s.h b) → s'.h b = s.h b
theorem Fr.refl (s : St) : Fr s s := ⟨fun _ _ => rfl, fun _ _ _ _ => rfl⟩
theorem Fr.trans {a b c : St} (h : Fr a b) (g : Fr b c) : Fr a c :=
  ⟨fun j hc => by rw [g.1 j (by rw [h.1 j hc]; exact hc), h.1 j hc], fun b h8 h1 hc => by rw [g.2 b h8 h1 (by rw [h.2 b h8 h1 hc]; exact hc), h.2 b h8 h1 hc]⟩
theorem Fr.map (s : St) {φ : AV → AV} (h : Gd φ) : Fr s (s.mapA φ) := by
  obtain ⟨t, hp⟩ := s
  refine ⟨fun j hc => tr_fix h _ hc, fun b _ _ hc => ?_⟩
  show (match hp b with | some x => some (x.mapA (AV.tr φ)) | none => none) = hp b
  cases e : hp b with
  | none => rfl
  | some x => exact congrArg some (box_fix h x (hc x e))
theorem Fr.box8 (s : St) (x : Box) : Fr s (s.box 8 x) := by
  obtain ⟨t, hp⟩ := s
  exact ⟨fun _ _ => rfl, fun b h8 _ _ => upd_ne hp _ h8⟩
theorem Fr.boxN (s : St) (d : Nat) (hd : 17000 ≤ d) (x : Box) : Fr s (s.box d x) := by
  obtain ⟨t, hp⟩ := s
  exact ⟨fun _ _ => rfl, fun b _ h1 _ => upd_ne hp _ (by omega)⟩
theorem Fr.pop {s s' : St} (h : Fr s s') : Fr (popS s) (popS s') := by
  obtain ⟨t, hp⟩ := s
  obtain ⟨t', hp'⟩ := s'
  exact ⟨fun j hc => h.1 (j + 1000000) hc, h.2⟩
/-- A frame upon s0. -/
def Un (s0 s : St) : Prop := Fr s0 (popS s)
theorem un_push (args : List AV) (s : St) : Un s (pushS args s) := by unfold Un; rw [pop_push]; exact .refl s
theorem un_fr {s0 s s' : St} (h : Un s0 s) (g : Fr s s') : Un s0 s' := Fr.trans h g.pop
theorem un_put {s0 : St} {t : Nat → AV} {h : Nat → Option Box} {d : Nat} {v : AV} (hd : Nat.blt d 1000000 = true) (hu : Un s0 ⟨t, h⟩) : Un s0 ⟨upd t d v, h⟩ := by
  have := pop_put (s := ⟨t, h⟩) (d := d) (v := v) hd
  unfold Un at *
  exact this.symm ▸ hu
theorem un_map {s0 : St} {t : Nat → AV} {h : Nat → Option Box} {φ : AV → AV} (g : Gd φ) (hu : Un s0 ⟨t, h⟩) : Un s0 (St.mapA ⟨t, h⟩ φ) := un_fr hu (.map _ g)
theorem un_box8 {s0 : St} {t : Nat → AV} {h : Nat → Option Box} {x : Box} (hu : Un s0 ⟨t, h⟩) : Un s0 ⟨t, upd h 8 (some x)⟩ := un_fr hu (.box8 _ x)
theorem un_boxN {s0 : St} {t : Nat → AV} {h : Nat → Option Box} {d : Nat} {x : Box} (hd : Nat.ble 17000 d = true) (hu : Un s0 ⟨t, h⟩) : Un s0 ⟨t, upd h d (some x)⟩ := un_fr hu (.boxN _ d (Nat.le_of_ble_eq_true hd) x)
theorem gd_drp {F : Nat} (hF : (Nat.beq F 7000 || Nat.ble 17000000 F) = true) : Gd (drpF F) := by
  intro v hv
  have key : ∀ G x, (bif Nat.beq G 7000 || Nat.ble 17000000 G then AV.bad else x) = x → x ≠ .bad → (bif Nat.beq G F then AV.bad else x) = x := by
    intro G x h1 h2
    cases e : Nat.beq G F with
    | false => rfl
    | true => rw [Nat.eq_of_beq_eq_true e, hF] at h1; exact absurd h1.symm h2
  cases v with
  | sl g e xs => cases g with
    | own G => exact key G _ hv (by intro h; cases h)
    | _ => rfl
  | pe g e i o cs => cases g with
    | own G => exact key G _ hv (by intro h; cases h)
    | _ => rfl
  | _ => rfl
theorem gd_wrt {i o : Nat} {us : List AV} : Gd (wrtF 7000 i o us) := by
  intro v hv
  have key : ∀ G x y, (bif Nat.beq G 7000 || Nat.ble 17000000 G then AV.bad else x) = x → x ≠ .bad → (bif Nat.beq G 7000 then y else x) = x := by
    intro G x y h1 h2
    cases e : Nat.beq G 7000 with
    | false => rfl
    | true => rw [e] at h1; exact absurd h1.symm h2
  cases v with
  | sl g e xs => cases g with
    | own G => exact key G _ _ hv (by intro h; cases h)
    | _ => rfl
  | pe g e i o cs => cases g with
    | own G => exact key G _ _ hv (by intro h; cases h)
    | _ => rfl
  | _ => rfl
theorem gd_fgt {b : Nat} (hb : Nat.ble 17000 b = true) : Gd (fgtB b) := by
  intro v hv
  have key : ∀ c x, (bif Nat.ble 17000 c then AV.bad else x) = x → x ≠ .bad → (bif Nat.beq c b then AV.bad else x) = x := by
    intro c x h1 h2
    cases e : Nat.beq c b with
    | false => rfl
    | true => rw [Nat.eq_of_beq_eq_true e, hb] at h1; exact absurd h1.symm h2
  cases v with
  | ptr c o => exact key c _ hv (by intro h; cases h)
  | mp c => exact key c _ hv (by intro h; cases h)
  | _ => rfl
/-- Some places and boxes told of a state. -/
theorem told {Q : St → Prop} {t : Nat → AV} {h : Nat → Option Box} (l : List (Nat × AV)) (lb : List (Nat × Option Box)) (ht : Has t l) (hh : Has h lb) (g : Q ⟨updL t l, updL h lb⟩) : Q ⟨t, h⟩ := by
  rw [updL_has t l ht, updL_has h lb hh] at g
  exact g
theorem inl_go {E : En} {fn : Func} {code : Code} {args : List AV} {s : St} {K : AV → St → Prop} (hl : Nat.ble args.length fn.ntmps = true) (h : wpA E code (bodyJ E.T fn K) (pushS args s)) : inlJ E fn code args s K := by
  unfold inlJ
  rw [hl]
  exact h
theorem un_told {s0 : St} {t : Nat → AV} {h : Nat → Option Box} {l : List (Nat × AV)} {lb : List (Nat × Option Box)} (ht : Has t l) (hh : Has h lb) (g : Un s0 ⟨t, h⟩) : Un s0 ⟨updL t l, updL h lb⟩ := by
  rw [updL_has t l ht, updL_has h lb hh]
  exact g
theorem wp_told {E : En} {c : Code} {Q : Ex → St → Prop} {t : Nat → AV} {h : Nat → Option Box} (l : List (Nat × AV)) (lb : List (Nat × Option Box)) (ht : Has t l) (hh : Has h lb) (g : wpA E c Q ⟨updL t l, updL h lb⟩) : wpA E c Q ⟨t, h⟩ := by
  rw [updL_has t l ht, updL_has h lb hh] at g
  exact g
end Go.Proofs.Ytgikhdaildaonaa.A
