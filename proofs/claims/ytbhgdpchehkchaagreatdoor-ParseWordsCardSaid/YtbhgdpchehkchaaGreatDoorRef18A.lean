/- The walks of the document's small functions for commands: Name, Number. Conditions: a text is of a length that an int tells. -/
import Derived.Test.YtbhgdpchehkchaaGreatDoorLawPKeys
namespace Go.Proofs.YtbhgdpchehkchaaGreatDoor
open Go.RowKit

/-- What the document's Number tells. -/
def numI (l : List UInt8) : Int := match RqF.numP l with
  | some v => (v : Int)
  | none => -1
theorem numP_short {l : List UInt8} (h : l.length ≤ 9) : RqF.numP l = RqF.digP l := by unfold RqF.numP; rw [if_pos h]
theorem numI_none {l : List UInt8} (h : RqF.numP l = none) : numI l = -1 := by unfold numI; rw [h]
theorem numI_long {l : List UInt8} (h : 9 < l.length) : numI l = -1 := numI_none (by unfold RqF.numP; rw [if_neg (by omega)])
theorem numI_dig {l : List UInt8} (h : RqF.digP l = none) : numI l = -1 := numI_none (by unfold RqF.numP; split; exact h; rfl)
theorem numI_bad {l : List UInt8} {k : Nat} (h : k < l.length) (hd : ¬ (48 ≤ l[k].toNat ∧ l[k].toNat ≤ 57)) : numI l = -1 := numI_dig (digP_bad h hd)
theorem numI_nil {l : List UInt8} (h : l.length = 0) : numI l = -1 := numI_dig (digP_nil h)
theorem numI_nought {l : List UInt8} (h1 : l.length ≠ 1) (h2 : 0 < l.length) (h3 : (l[0]'h2).toNat = 48) : numI l = -1 := numI_dig (digP_nought h1 h2 h3)
theorem numI_good {l : List UInt8} {a : Nat} (h1 : l.length ≤ 9) (h2 : 0 < l.length) (h3 : (l[0]'h2).toNat ≠ 48 ∨ l.length = 1) (hv : a = RqF.valA 0 l ∧ l.all RqF.isDig = true) : numI l = (a : Int) := by
  unfold numI
  rw [numP_short h1, digP_good (by omega) h2 h3 hv]
theorem dig_small9 {l : List UInt8} {k a : Nat} (hk : k ≤ 9) (hv : a = RqF.valA 0 (l.take k) ∧ (l.take k).all RqF.isDig = true) : a < 1000000000 := by
  have h1 := RqF.valA_lt _ hv.2 0
  have h2 : 10 ^ (l.take k).length ≤ 10 ^ 9 := Nat.pow_le_pow_right (by decide) (by rw [List.length_take]; omega)
  rw [← hv.1] at h1
  omega
set_option maxRecDepth 100000 in
set_option maxHeartbeats 1000000 in
theorem name_any (s : ByteArray) (w : World) (hs : s.size ≤ 9223372036854775807) :
    Calls Tryz.prog 71 #[.string s] w fun e w' => e = .returned (.bool (RqF.isWord s.data.toList)) ∧ w = w' := by
  obtain ⟨l, hl⟩ : ∃ l, l = s.data.toList := ⟨_, rfl⟩
  have hsz : l.length = s.size := by rw [hl, ← Lib.size_eq]
  have HGE : Hid (∀ k (h : k < s.size), (s[k]'h).toNat = (l[k]'(by omega)).toNat) := by intro k h; subst hl; rfl
  rw [← hl]
  have HL := Lib.hid hl; clear hl
  go_enter Tryz.func71, Tryz.ntmps71
  go_wp2
  go_loop [3] (fun i => ∃ k : Nat, i = .int .i64 k ∧ k ≤ s.size ∧ Hid ((l.take k).all RqF.inW = true)) (fun i => s.size - (intOf i).toNat)
  case atStart => exact ⟨0, rfl, by omega, rfl⟩
  case round =>
    obtain ⟨k, rfl, hk, HV⟩ := hrel
    by_cases hlt : k < s.size
    · have hb := HGE.out k hlt
      by_cases hdig : 33 ≤ (s[k]'hlt).toNat ∧ (s[k]'hlt).toNat ≤ 126
      · have HN := Lib.hid (inW_fresh (l := l) (k := k) (by omega) (by rw [← hb]; exact hdig) HV.out)
        obtain ⟨hd1, hd2⟩ := hdig
        clear hb
        go_wp2_with fail
        exact ⟨⟨k + 1, by go_num, by omega, HN⟩, by simp [intOf]; omega⟩
      · have HF := Lib.hid (inW_bad (l := l) (k := k) (by omega) (by rw [← hb]; exact hdig))
        clear hb
        rcases (show (s[k]'hlt).toNat < 33 ∨ 126 < (s[k]'hlt).toNat from by omega) with hd | hd
        all_goals
          clear hdig
          go_wp2_with fail
          go_ret
          exact ⟨by rw [HF.out]; rfl, rfl⟩
    · obtain rfl : k = s.size := by omega
      have hall := HV.out
      rw [List.take_of_length_le (by omega)] at hall
      have HF := Lib.hid (isWord_all hall)
      have HSZ := Lib.hid hsz
      clear hall HGE hsz
      by_cases h1 : 1 ≤ s.size
      · by_cases h2 : s.size ≤ 64
        all_goals
          go_wp2_with fail
          go_ret
          refine ⟨?_, rfl⟩
          rw [HF.out, HSZ.out]
          refine congrArg (fun b => Ending.returned (.bool b)) ?_
          simp [h1, h2] <;> omega
      · go_wp2_with fail
        go_ret
        refine ⟨?_, rfl⟩
        rw [HF.out, HSZ.out]
        refine congrArg (fun b => Ending.returned (.bool b)) ?_
        simp [h1] <;> omega

set_option maxRecDepth 100000 in
set_option maxHeartbeats 1000000 in
theorem number18_any (s : ByteArray) (w : World) (hs : s.size ≤ 9223372036854775807) :
    Calls Tryz.prog 72 #[.string s] w fun e w' => e = .returned (.int .i64 (numI s.data.toList)) ∧ w = w' := by
  obtain ⟨l, hl⟩ : ∃ l, l = s.data.toList := ⟨_, rfl⟩
  have hsz : l.length = s.size := by rw [hl, ← Lib.size_eq]
  have HGE : Hid (∀ k (h : k < s.size), (s[k]'h).toNat = (l[k]'(by omega)).toNat) := by intro k h; subst hl; rfl
  rw [← hl]
  have HL := Lib.hid hl; clear hl
  go_enter Tryz.func72, Tryz.ntmps72
  go_wp2
  go_loop [3, 4] (fun n i => ∃ (k a : Nat), n = .int .i64 (a : Int) ∧ i = .int .i64 k ∧ k ≤ s.size ∧ k ≤ 9 ∧ Hid (a = RqF.valA 0 (l.take k) ∧ (l.take k).all RqF.isDig = true)) (fun _ i => s.size - (intOf i).toNat)
  case atStart => exact ⟨0, 0, rfl, rfl, by omega, by omega, rfl, rfl⟩
  case round =>
    obtain ⟨k, a, rfl, rfl, hk, hk9, HV⟩ := hrel
    by_cases hlt : k < s.size
    · have hb := HGE.out k hlt
      by_cases hdig : 48 ≤ (s[k]'hlt).toNat ∧ (s[k]'hlt).toNat ≤ 57
      · by_cases h9 : k < 9
        · have hsm := dig_small9 hk9 HV.out
          have HN := dig_fresh (l := l) (k := k) (by omega) (by rw [← hb]; exact hdig) HV.out
          obtain ⟨hd1, hd2⟩ := hdig
          rw [← hb] at HN
          clear hb
          go_wp2_with fail
          refine ⟨⟨k + 1, 10 * a + ((s[k]'hlt).toNat - 48), ?_, by go_num, by omega, by omega, HN⟩, by simp [intOf]; omega⟩
          congr 1
          omega
        · have HF := Lib.hid (numI_long (l := l) (by omega))
          obtain ⟨hd1, hd2⟩ := hdig
          clear hb
          go_wp2_with fail
          go_ret
          exact ⟨by rw [HF.out]; rfl, rfl⟩
      · have HF := Lib.hid (numI_bad (l := l) (k := k) (by omega) (by rw [← hb]; exact hdig))
        clear hb
        rcases (show (s[k]'hlt).toNat < 48 ∨ 57 < (s[k]'hlt).toNat from by omega) with hd | hd
        all_goals
          clear hdig
          go_wp2_with fail
          go_ret
          exact ⟨by rw [HF.out]; rfl, rfl⟩
    · obtain rfl : k = s.size := by omega
      have hall := HV.out
      rw [List.take_of_length_le (by omega)] at hall
      by_cases h0 : s.size = 0
      · have HF := Lib.hid (numI_nil (l := l) (by omega))
        clear hall
        go_wp2_with fail
        go_ret
        exact ⟨by rw [HF.out]; rfl, rfl⟩
      · have hb0 := HGE.out 0 (by omega)
        have hpos : 0 < s.size := by omega
        by_cases hc : (s[0]'hpos).toNat = 48
        · by_cases h1 : s.size = 1
          · have HF := Lib.hid (numI_good (l := l) (a := a) (by omega) (by omega) (Or.inr (by omega)) hall)
            clear hall hb0
            go_wp2_with fail
            go_ret
            exact ⟨by rw [HF.out]; rfl, rfl⟩
          · have HF := Lib.hid (numI_nought (l := l) (by omega) (by omega) (by rw [← hb0]; exact hc))
            have hq : ((s.size : Int) == 1) = false := by simp; omega
            clear hall hb0
            go_wp2_with fail
            go_ret
            exact ⟨by rw [HF.out]; rfl, rfl⟩
        · have HF := Lib.hid (numI_good (l := l) (a := a) (by omega) (by omega) (Or.inl (by rw [← hb0]; exact hc)) hall)
          clear hall hb0
          go_wp2_with fail
          go_ret
          exact ⟨by rw [HF.out]; rfl, rfl⟩

end Go.Proofs.YtbhgdpchehkchaaGreatDoor
