/- The walk of ParseWords' own joining of words, and the plain law of its lines. Condition: at most ten words, of at most a hundred bytes each. -/
import Derived.Test.YtbhgdpchehkchaaGreatDoorRef18F
namespace RqF
/-- Words with something between them. -/
def joinL (sep : List UInt8) : List (List UInt8) → List UInt8
  | [] => []
  | [w] => w
  | w :: v :: ws => w ++ sep ++ joinL sep (v :: ws)
theorem joinL_snoc (sep x : List UInt8) : ∀ ws : List (List UInt8), ws ≠ [] → joinL sep (ws ++ [x]) = joinL sep ws ++ sep ++ x
  | [], h => absurd rfl h
  | [w], _ => by simp [joinL]
  | w :: v :: ws, _ => by
    have := joinL_snoc sep x (v :: ws) (by simp)
    show w ++ sep ++ joinL sep ((v :: ws) ++ [x]) = w ++ sep ++ joinL sep (v :: ws) ++ sep ++ x
    rw [this]; simp
/-- A kind's name and as many sevens as it takes. -/
def sevens (k : Nat) : List (List UInt8) := nameOf k :: List.replicate (partsOf k).length [55]
def wordsLine (k how : Nat) : List UInt8 :=
  match how with
  | 0 => joinL [32] (sevens k ++ [[55]])
  | 1 => joinL [32] ((sevens k).take (sevens k).length.pred)
  | 2 => joinL [32, 32] (sevens k)
  | 3 => 32 :: joinL [32] (sevens k)
  | 4 => joinL [32] (sevens k) ++ [32]
  | 5 => ((nameOf k).headD 0 + 32) :: (joinL [32] (sevens k)).drop 1
  | 6 => joinL [9] (sevens k)
  | _ => 88 :: joinL [32] (sevens k)
theorem sevens_good : ∀ k : Fin 23, 1 ≤ k.val → (lineP (joinL [32] (sevens k.val))).2 = 0 ∧ (lineP (joinL [32] (sevens k.val))).1.kind = k.val := by decide +kernel
theorem sevens_bad : ∀ (k : Fin 23) (h : Fin 8), 1 ≤ k.val → (partsOf k.val ≠ [] ∨ (h.val ≠ 1 ∧ h.val ≠ 2 ∧ h.val ≠ 6)) → (lineP (wordsLine k.val h.val)).2 = 3 ∧ (lineP (wordsLine k.val h.val)).1.kind = 0 := by decide +kernel
theorem name_upper (k : Nat) (h1 : 1 ≤ k) (h2 : k ≤ 22) : 65 ≤ ((nameOf k).headD 0).toNat ∧ ((nameOf k).headD 0).toNat ≤ 90 := by
  have key : ∀ k : Fin 23, 1 ≤ k.val → 65 ≤ ((nameOf k.val).headD 0).toNat ∧ ((nameOf k.val).headD 0).toNat ≤ 90 := by decide +kernel
  exact key ⟨k, by omega⟩ h1
theorem sevens_pos (k : Nat) (h1 : 1 ≤ k) (h2 : k ≤ 22) : 1 ≤ (joinL [32] (sevens k)).length := by
  have key : ∀ k : Fin 23, 1 ≤ k.val → 1 ≤ (joinL [32] (sevens k.val)).length := by decide +kernel
  exact key ⟨k, by omega⟩ h1
theorem sevens_short (k : Nat) (hk : k ≤ 22) : ∀ x ∈ sevens k, x.length ≤ 100 := by
  have key : ∀ k : Fin 23, ∀ x ∈ sevens k.val, x.length ≤ 100 := by decide +kernel
  exact key ⟨k, by omega⟩
theorem sevens_len (k : Nat) (hk : k ≤ 22) : (joinL [32] (sevens k)).length ≤ 600 := by
  have key : ∀ k : Fin 23, (joinL [32] (sevens k.val)).length ≤ 600 := by decide +kernel
  exact key ⟨k, by omega⟩
theorem wordsLine_len (k h : Nat) (hk : k ≤ 22) (hh : h ≤ 7) : (wordsLine k h).length ≤ 700 := by
  have key : ∀ (k : Fin 23) (h : Fin 8), (wordsLine k.val h.val).length ≤ 700 := by decide +kernel
  exact key ⟨k, by omega⟩ ⟨h, by omega⟩
theorem words_refused (k h : Nat) (h1 : 1 ≤ k) (h2 : k ≤ 22) (hh : h ≤ 7) (hc : partsOf k ≠ [] ∨ (h ≠ 1 ∧ h ≠ 2 ∧ h ≠ 6)) : lineP (wordsLine k h) = (Cmd.nil, 3) := by
  have hb := (sevens_bad ⟨k, by omega⟩ ⟨h, by omega⟩ h1 hc).1
  unfold lineP at hb ⊢
  split
  · rfl
  · rename_i j _ hf
    rw [hf] at hb
    simp only at hb ⊢
    unfold afterP at hb ⊢
    split
    · rfl
    · rename_i c hc2
      rw [hc2] at hb
      simp only at hb
      split at hb
      · simp at hb
      · simp at hb
end RqF
namespace Go.Proofs.YtbhgdpchehkchaaGreatDoor
open Go.RowKit

set_option maxRecDepth 100000 in
set_option maxHeartbeats 1000000 in
theorem join_any (ws : List (List UInt8)) (sep : ByteArray) (g cap n : Nat) (w : World) (hn : n = ws.length) (h10 : n ≤ 10) (hne : 0 < n) (hsep : sep.size ≤ 2) (hlen : ∀ x ∈ ws, x.length ≤ 100)
    (hc : ∀ (j : Nat) (h : j < ws.length), w.cell? ⟨g, j, none⟩ = some (.string ⟨(ws[j]).toArray⟩)) :
    Calls Tryz.prog 13 #[.slice (some ⟨g, 0, none⟩) n cap, .string sep] w fun e w' => e = .returned (.string ⟨(RqF.joinL sep.data.toList ws).toArray⟩) ∧ w = w' := by
  have HN := Lib.hid hn; clear hn
  have HC := Lib.hid hc; clear hc
  have HLEN := Lib.hid hlen; clear hlen
  have HNE := Lib.hid hne
  have hn0 : decide (0 < (0 : Int)) = false := rfl
  go_enter Tryz.func13, Tryz.ntmps13
  go_wp2_with fail
  go_loop [5, 6] (fun t i => ∃ (k : Nat) (s : ByteArray), t = .string s ∧ i = .int .i64 k ∧ k ≤ n ∧ s.size ≤ 102 * k ∧ Hid (s.data.toList = RqF.joinL sep.data.toList (ws.take k))) (fun _ i => n - (intOf i).toNat)
  case atStart => exact ⟨0, _, rfl, rfl, Nat.zero_le _, Nat.le_refl _, rfl⟩
  case round =>
    obtain ⟨k, s, rfl, rfl, hk, hsz, HS⟩ := hrel
    by_cases hlt : k < n
    · have hkl : k < ws.length := by rw [← HN.out]; exact hlt
      obtain ⟨x, hx⟩ : ∃ x : ByteArray, x = ⟨(ws[k]).toArray⟩ := ⟨_, rfl⟩
      have hcx : w.cell? ⟨g, k, none⟩ = some (.string x) := by rw [hx]; exact HC.out k hkl
      have hxl : x.size ≤ 100 := by rw [hx]; show (ws[k]).toArray.size ≤ 100; rw [List.size_toArray]; exact HLEN.out _ (List.getElem_mem _)
      have HX : Hid (ws.take (k + 1) = ws.take k ++ [x.data.toList]) := by
        show _ = _
        rw [List.take_succ_eq_append_getElem hkl, hx]
      clear hx
      rcases Nat.eq_zero_or_pos k with h0 | h0
      · subst h0
        go_wp2_with fail
        have hs0 : s.size = 0 := by omega
        have hsl : s.data.toList = [] := by
          rw [Lib.size_eq] at hs0
          exact List.length_eq_zero_iff.1 hs0
        refine ⟨⟨1, _, rfl, by go_num, by omega, ?_, ?_⟩, by simp [intOf]; omega⟩
        · rw [Lib.size_eq, ba_append, List.length_append, ← Lib.size_eq, ← Lib.size_eq]; omega
        · show _ = _
          rw [ba_append, hsl]
          have h := HX.out
          rw [h]; rfl
      · go_wp2_with fail
        refine ⟨⟨k + 1, _, rfl, by go_num, by omega, ?_, ?_⟩, by simp [intOf]; omega⟩
        · rw [Lib.size_eq, ba_append, ba_append, List.length_append, List.length_append, ← Lib.size_eq, ← Lib.size_eq, ← Lib.size_eq]; omega
        · show _ = _
          rw [ba_append, ba_append, HS.out, HX.out, RqF.joinL_snoc]
          intro e
          have := congrArg List.length e
          rw [List.length_take, List.length_nil] at this
          omega
    · obtain rfl : k = n := by omega
      go_wp2_with fail
      go_ret
      refine ⟨?_, rfl⟩
      have h := HS.out
      rw [List.take_of_length_le (by rw [← HN.out]; exact Nat.le_refl _)] at h
      rw [← h]; rfl
set_option maxRecDepth 100000 in
theorem index_name (k : Nat) (h1 : 1 ≤ k) (h2 : k ≤ 22) (w : World) : (Instr.index 9 (.string ⟨(RqF.nameOf k).toArray⟩) (.int .i64 0)).run Tryz.prog w = .ok (.int .u8 (((RqF.nameOf k).headD 0).toNat : Int)) w := by
  have hk : k = 1 ∨ k = 2 ∨ k = 3 ∨ k = 4 ∨ k = 5 ∨ k = 6 ∨ k = 7 ∨ k = 8 ∨ k = 9 ∨ k = 10 ∨ k = 11 ∨ k = 12 ∨ k = 13 ∨ k = 14 ∨ k = 15 ∨ k = 16 ∨ k = 17 ∨ k = 18 ∨ k = 19 ∨ k = 20 ∨ k = 21 ∨ k = 22 := by omega
  rcases hk with rfl | rfl | rfl | rfl | rfl | rfl | rfl | rfl | rfl | rfl | rfl | rfl | rfl | rfl | rfl | rfl | rfl | rfl | rfl | rfl | rfl | rfl
  all_goals rfl
end Go.Proofs.YtbhgdpchehkchaaGreatDoor
