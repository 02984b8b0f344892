/- Contract of the law ReachChecks. -/
import Derived.Test.YtcnpanmkpfgdjaaFew
import Derived.Test.YtcnpanmkpfgdjaaEmpty
namespace Go.Proofs.Ytcnpanmkpfgdjaa
open Go.RowKit Go.Sch

theorem chords_one {w : World} {v : Value} {c : List (List Int)} {g : Nat} {t : TypeId} (hb : Blk w g #[v] t) (hx : rowsR.R w (fun _ => True) [v] c) : chordsR.R w (fun _ => True) [.slice (some ⟨g, 0, none⟩) 1 1] [c] := by
  refine ⟨some ⟨g, 0, none⟩, 1, rfl, Nat.le_refl _, by decide, .inr ⟨g, 0, rfl, trivial, fun i hi => ?_⟩⟩
  match i, hi with
  | 0, _ => exact ⟨[v], hb.at _ _ (fun j hj => by match j, hj with | 0, _ => rfl), hx⟩
theorem derr_bad {w : World} {cs : List Value} {v : Value} {q : Quest} (hl : layR.R w (fun _ => True) cs q.l) (hv : chordsR.R w (fun _ => True) [v] [q.chord]) (hm : (Lit.int .i64 q.most).wf = true) (he : reachCheck q ≠ 0) :
    DErr w cs v q.most (reachCheck q) := fun w' k => by
  have e1 : qCount ⟨q.l, [q.chord][0], q.most⟩ = (0, reachCheck q) := by
    show qCount q = _
    rw [qCount, if_pos he]
  have h := diams_bad (layR.keep hl k) (chordsR.keep hv k) (show 0 < 1 ∧ 1 ≤ 40 by decide) q.most hm (by rw [e1]; exact he)
  rw [e1] at h
  exact h
theorem rowCheck_ne (l : List Int) : rowCheck l ≠ 19 := by
  unfold rowCheck
  repeat (first | (split; (first | omega | skip)) | omega)
theorem rowsCheck_ne (n : Int) : ∀ l : List (List Int), rowsCheck l n ≠ 19
  | [] => by simp [rowsCheck]
  | r :: l => by
    rw [rowsCheck]
    have h1 := rowCheck_ne r
    have h2 := rowsCheck_ne n l
    split
    · exact h1
    · split
      · decide
      · exact h2
theorem reachCheck_ne (q : Quest) : reachCheck q ≠ 19 := by
  have h1 := rowCheck_ne q.l.o
  have h2 := rowsCheck_ne q.l.o.length [q.l.r, q.l.u]
  have h3 := rowsCheck_ne q.l.o.length q.chord
  have h4 : layCheck q.l ≠ 19 := by
    unfold layCheck
    split
    · decide
    · split
      · exact h1
      · split
        · decide
        · exact h2
  have h5 : windowCheck q.most ≠ 19 := by
    unfold windowCheck
    split <;> decide
  unfold reachCheck
  split
  · exact h4
  · split
    · decide
    · split
      · decide
      · split
        · exact h3
        · exact h5
end Go.Proofs.Ytcnpanmkpfgdjaa
