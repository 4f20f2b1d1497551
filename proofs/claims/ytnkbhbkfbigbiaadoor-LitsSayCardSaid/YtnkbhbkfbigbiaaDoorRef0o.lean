/-
  skolemref.Ints: a slice of its own.
-/
import Derived.Test.YtnkbhbkfbigbiaaDoorRef0
import Derived.Test.YtnkbhbkfbigbiaaDoorBm31
namespace Go.Proofs.YtnkbhbkfbigbiaaDoor
open Go.RowKit

theorem sliceCells_keep0 {h h' : AHeap} (hk : Keeps h h' fun _ => False) {s : Sl} {sz : Nat} {cs : List AVal} (hs : h.sliceCells sz s = some cs) : h'.sliceCells sz s = some cs := sliceCells_keep hk hs fun _ _ _ h => h
theorem intsr_loop (fuel d : Nat) {a : List Int} {t : Sl} (hn : a.length < 1000000000) (ht : t.len = a.length) {h0 : AHeap} (hs0 : h0.sliceCells 1 t = some (intsC a)) : ∀ (n k : Nat) (s : Sl) (h : AHeap), a.length < n + k → k ≤ a.length → Sep0 h0 h [.grown 1 s (intsC (a.take k))] →
    ∃ s' h', l_skolemref_Ints_0 fuel d n [(0, .slice t), (3, .slice s), (4, .int .i64 (k : Int))] h = some (.exit 0, [(3, .slice s')], h') ∧ Sep0 h0 h' [.grown 1 s' (intsC a)] := by
  intro n
  induction n with
  | zero => intro k s h h1 h2; omega
  | succ n ih =>
    intro k s h h1 h2 hg
    have hl := hg.len (i := 0) rfl
    simp only [List.length_map, List.length_take, Nat.mul_one] at hl
    rw [l_skolemref_Ints_0_eq, ht]
    by_cases hk : k < a.length
    · have hr := readI (sliceCells_keep0 hg.ext hs0) (j := (k : Int)) (by omega) (by omega)
      rw [bif_pos (by omega), hr.1, Option.bind_some, hr.2]
      simp only [Option.bind_some, int_int, Int.toNat_natCast]
      obtain ⟨s', h', e1, e2, e3⟩ := hg.grow (i := 0) (bytes := 8) (m := 1) (vs := [.int .i64 (a.getD k 0)]) rfl rfl (by omega) (by omega)
      rw [e1]
      simp only [Option.bind_some]
      rw [succI (by omega)]
      refine ih (k + 1) s' h' (by omega) (by omega) ?_
      rw [take_get hk 0]
      simpa using e2
    · have : k = a.length := by omega
      subst this
      rw [bif_neg (by omega)]
      rw [List.take_length] at hg
      exact ⟨s, h, rfl, hg⟩
theorem intsr_run (fuel d : Nat) {a : List Int} {t : Sl} {h : AHeap} (hs : h.sliceCells 1 t = some (intsC a)) (hn : a.length < 1000000000) (hf : a.length < fuel) :
    ∃ s' h', run fuel (d + 1) F_skolemref_Ints [.slice t] h = some (.slice s', h') ∧ New h h' (.grown 1 s' (intsC a)) := by
  have ht : t.len = a.length := by have := sliceCells_len hs; simp at this; omega
  have s0 := (Sep0.start h).addMake 1 (eqI (0 : Int) ((a.length : Nat) : Int))
  obtain ⟨s', h', e1, e2⟩ := intsr_loop fuel d hn ht hs fuel 0 _ _ (by omega) (by omega) s0
  refine ⟨s', h', ?_, e2.get (i := 0) rfl⟩
  rw [e_skolemref_Ints, ht, cond_pos _ _ (mk0_ok (by omega) (by omega) (by omega))]
  rw [show ((0 : Nat) : Int) = 0 from rfl] at e1
  rw [e1]
  simp only [Option.bind_some, k_skolemref_Ints_0_x0]
end Go.Proofs.YtnkbhbkfbigbiaaDoor
