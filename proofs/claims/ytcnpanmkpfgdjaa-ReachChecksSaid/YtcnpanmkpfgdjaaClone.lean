/- Contract of slices.Clone over keys. -/
import Derived.Test.YtcnpanmkpfgdjaaLeast
namespace Go.Proofs.Ytcnpanmkpfgdjaa
open Go.RowKit Go.Sch

theorem Try.eql_keys (w : World) (a : Option Addr) (n c n' c' : Nat) : (binOp .eql 31 (.slice a n c) (.slice none n' c')).run Try.prog w = .ok (.bool a.isNone) w := Lib.run_eql_slice_nil w _ _ a n c n' c' Try.underlying31
theorem Try.neq_keys (w : World) (a : Option Addr) (n c n' c' : Nat) : (binOp .neq 31 (.slice a n c) (.slice none n' c')).run Try.prog w = .ok (.bool (!a.isNone)) w := run_neq_slice_nil_any w _ _ a n c n' c' Try.underlying31

theorem own_empty {w : World} {B g : Nat} {e : TypeId} {size : Nat} (hb : Blk w g #[] e) (hB : B ≤ g) : w.ownsRow B e size (.slice (some ⟨g, 0, none⟩) 0 0) 0 [] :=
  ⟨by simp, .inr ⟨g, 0, #[], rfl, hB, hb, Nat.le_refl _, by decide, by simp, by simp⟩⟩
set_option maxRecDepth 100000 in
set_option maxHeartbeats 1000000 in
theorem cloneKeys_calls {w : World} {b off n cap : Nat} {l : List Key2} (hat : At w b off (l.flatMap keyC)) (hl : l.length = n) (hn : 0 < n) (hn8 : n ≤ 1000) :
    Calls Try.prog 39 #[.slice (some ⟨b, off, none⟩) n cap] w fun e w' => ∃ g c, e = .returned (.slice (some ⟨g, 0, none⟩) n c) ∧
      w'.ownsRow w.heap.size 23 2 (.slice (some ⟨g, 0, none⟩) n c) n (l.flatMap keyC) ∧ w.heap.size ≤ g ∧ Below w.heap.size w w' := by
  have qT := Try.eql_keys
  have HAT := Lib.hid (fun w' (k : Keeps (fun _ => True) w w') => At.keep (ok := fun _ => True) hat k trivial)
  have HL := Lib.hid (show (l.flatMap keyC).length = n * 2 by rw [keyC_len, hl])
  have H1 := Lib.hid (show ∀ u ∈ l.flatMap keyC, u.oneCell' = true by
    intro u hu
    obtain ⟨k, _, hk⟩ := List.mem_flatMap.1 hu
    simp only [keyC, List.mem_cons, List.not_mem_nil, or_false] at hk
    rcases hk with rfl | rfl <;> rfl)
  clear hat hl
  go_enter Try.func39, Try.ntmps39
  go_wp2_with ((with_reducible refine wpList_append_news (o := ⟨some 7, _, _, _, _, _⟩) ?_ (.tmp 5) (.tmp 6) 31 ?_ w.heap.size 23 (.agg #[.int .i64 0, .int .i64 0]) 2 16 Try.underlying31 Try.info_key ?_ ?_ ?_ _ 0 [] ?_ (own_empty (g := w.heap.size) ?_ (Nat.le_refl _)) b off n cap ?_ (l.flatMap keyC) HL.out (HAT.out _ ?_) H1.out ?_ ?_ ?_); rfl; rfl; rfl; decide; decide; rfl; (exact Blk.newAt _ _ rfl); rfl; (exact Keeps.alloc _ _ _); omega; (simp); intro v' w5 hown5 hk5 hb5 hg5; have HO5 := Lib.hid hown5; have HB5 := Lib.hid hb5; clear hown5 hk5 hb5 hg5)
  go_ret
  have ho := HO5.out
  simp only [Nat.zero_add, List.nil_append] at ho
  obtain ⟨n', rfl⟩ : ∃ n', n = n' + 1 := ⟨n - 1, by omega⟩
  obtain ⟨g, c, rfl, hg, -⟩ := own_succ ho
  exact ⟨g, c, rfl, ho, hg, ((Below.refl _ _).alloc (Nat.le_refl _) _).trans HB5.out⟩
end Go.Proofs.Ytcnpanmkpfgdjaa
