/- hawalalaw17: awake. -/
import Derived.Test.YtjffmldlkofpaaaGreatDoorM35
import Derived.Test.YtjffmldlkofpaaaGreatDoorGY
import Derived.Test.YtjffmldlkofpaaaGreatDoorY10
namespace Go.Proofs.YtjffmldlkofpaaaGreatDoor.A
open Go Q
theorem state_lp' {b : Book} {ps : List Paid} {now : Int} (hl : ps.length ≤ 1999900) : (stateM b ps now).pays.length ≤ 1999900 := by
  have := putGo_len (ps := ps) (t := (bookL (curs6 b) b.has, [])) (k := 0)
  show (putGo (bookL (curs6 b) b.has, []) 0 ps).2.length ≤ 1999900
  simp at this
  omega
theorem state_eng {b : Book} {ps : List Paid} {now : Int} (hb : b.Ok) (hp : ∀ p ∈ ps, p.In) (hl : ps.length ≤ 1999900) : EngS (stateM b ps now) :=
  ⟨⟨⟨by rw [(state_I now hb hp).l]; decide, state_lp' hl, Nat.zero_le _⟩, Nat.zero_le _⟩, fun i j a b h => by simp [stateM] at h, fun i j a b h => by simp [stateM] at h, fun k g h => by simp [stateM] at h⟩
theorem state_engG {b : Book} {ps : List Paid} {now : Int} (hb : b.Ok) (hp : ∀ p ∈ ps, p.In) (hl : ps.length ≤ 1999900) (hn : 0 ≤ now) : EngG (stateM b ps now) :=
  ⟨state_eng hb hp hl, state_good hb hp hn, fun g hg => (by cases hg), fun k hk => (by cases hk), rfl⟩
/-! ### the document's example -/
def b17 : Book := ⟨[], [500, 500, 500, 500], []⟩
def r17 : Req := ⟨1, 2, 9, 12, 5, 1, 0⟩
def es17 : List Evt := [⟨0, r17, 0, false⟩, ⟨1, req0, 1, true⟩, ⟨1, req0, 1, false⟩]
def sta17 : Sta := ⟨[⟨0, -1000, 0⟩, ⟨0, 0, 0⟩, ⟨0, 0, 0⟩, ⟨1, -500, 0⟩, ⟨1, 0, 0⟩, ⟨1, 0, 0⟩, ⟨2, -500, 0⟩, ⟨2, 0, 0⟩, ⟨2, 0, 0⟩, ⟨0, 500, 0⟩, ⟨1, 500, 0⟩, ⟨2, 500, 0⟩, ⟨0, 500, 0⟩, ⟨1, 0, 0⟩, ⟨0, 0, 0⟩], [], [], [], 0⟩
def sta17b : Sta := ⟨[⟨0, -1000, 0⟩, ⟨0, 0, 0⟩, ⟨0, 0, 0⟩, ⟨1, -500, 0⟩, ⟨1, 0, 0⟩, ⟨1, 0, 0⟩, ⟨2, -500, 0⟩, ⟨2, 0, 0⟩, ⟨2, 0, 0⟩, ⟨0, 495, 0⟩, ⟨1, 500, 0⟩, ⟨2, 500, 0⟩, ⟨0, 505, 0⟩, ⟨1, 0, 0⟩, ⟨0, 0, 0⟩], [], [], [⟨r17, 0, 0, true⟩], 0⟩
theorem aw17_0 : stateM b17 [] 0 = sta17 := by kernel_rfl
theorem aw17_1 : runE sta17 es17 = (sta17b, [(10, 0), (10, 0), (0, 0)]) := by kernel_rfl
theorem b17_in : b17.Ok := ⟨⟨fun _ h => (by cases h), by decide, by decide⟩, by decide⟩
def awake17C (args : List AV) (bs : List Box) (K : AV → List Box → Prop) : Prop := bs = [] ∧ args = [] ∧ K (.bool true) []
def RA17 : Contract
  | 23 => nil2C stateC
  | 40 => runC
  | _ => fun _ _ _ => False
theorem RA17_ok : CallOk Tryz.prog tab RA17 := by
  intro f args bs K h
  unfold RA17 at h
  split at h
  · exact ⟨_, h, state_ok.nil2⟩
  · exact ⟨_, h, run_ok⟩
  · exact h.elim
def RA17_E (pl : Nat → Plan) : En := ⟨tab, RA17, fun _ => none, 0, pl⟩
theorem RA17_J (pl : Nat → Plan) : JOk Tryz.prog (RA17_E pl).T (RA17_E pl).J := fun _ _ h => by cases h
set_option maxRecDepth 200000 in
set_option maxHeartbeats 6400000 in
theorem awake17_ok : FnOk Tryz.prog tab 22 awake17C := by
  refine fn_ok (E := RA17_E pl22) tab_is RA17_ok (RA17_J _) Tryz.func22 rfl rfl (by kernel_rfl) ?_
  rintro args bs K ⟨rfl, rfl, hK⟩
  refine ⟨rfl, ?_⟩
  have hS : EngS sta17 := by rw [← aw17_0]; exact state_eng b17_in (fun _ h => by cases h) (Nat.zero_le _)
  refine ⟨[bkA b17, padS [], .int .u8 0], ⟨.inr ⟨_, [u8S [], u32S [500, 500, 500, 500], u8S []], rfl, rfl, .inr ⟨_, _, rfl, rfl⟩, .inl rfl, .inr ⟨_, _, rfl, rfl⟩, trivial⟩, .inl (.inr ⟨_, _, rfl, rfl⟩), .inl (.inl rfl), trivial⟩, rfl, b17, [], 0, rfl, b17_in.toIn, (fun _ h => by cases h), by decide, ?_⟩
  rw [aw17_0]
  refine ⟨rfl, sta17, es17, rfl, hS.run _, by decide, ?_⟩
  rw [aw17_1]
  repeat' first
    | (exact hK)
    | (refine ⟨_, (by decide), rfl, ?_⟩)
    | (refine ⟨fun _ => ?_, fun h => Bool.noConfusion (show true = false from h)⟩)
    | (refine ⟨fun h => Bool.noConfusion (show false = true from h), fun _ => ?_⟩)
    | (refine And.intro ?_ ?_)
theorem runE_snoc (s : Sta) (es : List Evt) (e : Evt) : runE s (es ++ [e]) = ((engM (runE s es).1 e).1, (runE s es).2 ++ [(engM (runE s es).1 e).2]) := by
  induction es generalizing s with
  | nil => rfl
  | cons x es ih =>
    show ((runE (engM s x).1 (es ++ [e])).1, (engM s x).2 :: (runE (engM s x).1 (es ++ [e])).2) = _
    rw [ih]
    rfl
abbrev evsO (F : Nat) : List Evt → AV
  | [] => .sl .nl 0 []
  | o :: l => .sl (.own F) 52 (evtA o :: l.map evtA)
theorem evs_snoc (F : Nat) (l : List Evt) (x : Evt) : AV.sl (.own F) 52 (l.map evtA ++ [evtA x]) = evsO F (l ++ [x]) := by
  cases l <;> simp [evsO]
abbrev actsS (l : List Act) : AV := .sl .fz 95 (l.map actA)
end Go.Proofs.YtjffmldlkofpaaaGreatDoor.A
