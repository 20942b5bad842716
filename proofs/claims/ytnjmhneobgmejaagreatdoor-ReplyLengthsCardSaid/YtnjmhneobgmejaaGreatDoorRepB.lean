/- The walk of package reply's answer. Conditions: the library's tables are as they are laid; the text is of less than 2^32 - 15 bytes. -/
import Derived.Test.YtnjmhneobgmejaaGreatDoorRepN
namespace Go.Proofs.YtnjmhneobgmejaaGreatDoor
open Go.RowKit

theorem head_lit {S : ByteArray} {h L : List UInt8} (hS : S = ⟨h.toArray⟩) (e : (S.toList == L) = true) : h = L := by
  subst hS
  have := beq_iff_eq.1 e
  rw [ByteArray.toList_eq] at this
  simpa using this
theorem head_not {S : ByteArray} {h L : List UInt8} (hS : S = ⟨h.toArray⟩) (e : (S.toList == L) = false) : h ≠ L := by
  subst hS
  have := beq_eq_false_iff_ne.1 e
  rw [ByteArray.toList_eq] at this
  simpa using this
theorem words_head {g : Nat} {ws : List (List UInt8)} {h : List UInt8} {t : List (List UInt8)} {w : World} {S : ByteArray} (hw : WordsAt g ws w) (hws : ws = h :: t) (hS : S = ⟨h.toArray⟩) : w.cell? ⟨g, 0, none⟩ = some (.string S) := by
  subst hws; subst hS; exact words_cell hw 0 (by simp)
theorem ba_append (a b : ByteArray) : (a ++ b).data.toList = a.data.toList ++ b.data.toList := by simp
theorem contains_err (X : ByteArray) (b : Bool) (w : World) (ht : TabsM w) (hb : Lib.contains RqF.errText ([32] ++ X.data.toList ++ [32]) = b) :
    Calls Tryz.prog 37 #[.string ⟨RqF.errText.toArray⟩, .string ({ data := #[32] } ++ X ++ { data := #[32] })] w fun e w' => e = .returned (.bool b) ∧ w = w' := by
  refine (contains_any _ _ w ht (by decide)).mono fun e w' ⟨he, hw⟩ => ⟨?_, hw.symm⟩
  rw [he]
  have e1 : ({ data := #[32] } ++ X ++ { data := #[32] } : ByteArray).data.toList = [32] ++ X.data.toList ++ [32] := by rw [ba_append, ba_append]
  have e2 : (⟨RqF.errText.toArray⟩ : ByteArray).data.toList = RqF.errText := by simp
  rw [e1, e2, hb]
theorem trim_is (x : List UInt8) (w : World) : Calls Tryz.prog 44 #[.string ⟨x.toArray⟩, .string ⟨#[45]⟩] w fun e w' => e = .returned (.string ⟨(RqF.unsign x).toArray⟩) ∧ w = w' :=
  (Tryz.strings_TrimPrefix ⟨x.toArray⟩ ⟨#[45]⟩ w).mono fun e w' ⟨he, hw⟩ => ⟨by simpa [RqF.unsign] using he, hw.symm⟩
theorem unsign_len (x : List UInt8) : (RqF.unsign x).length ≤ x.length := by
  unfold RqF.unsign Lib.trimPrefix
  split
  · rw [List.length_drop]; omega
  · exact Nat.le_refl _

set_option maxRecDepth 100000 in
set_option maxHeartbeats 2000000 in
theorem ans_OK (W : World) (br k : Nat) (s : ByteArray) (ws : List (List UInt8)) (h r : List UInt8) (t : List (List UInt8)) (S : ByteArray) (w : World) (hR : Rd W br s k w) (hL : RqF.lineR (s.data.toList.drop k) = some (ws, r)) (hws : ws = h :: t) (hS : S = ⟨h.toArray⟩)
    (e0 : (S.toList == [79, 75]) = true) :
    Calls Tryz.prog 22 #[.pointer (some ⟨br, 0, none⟩)] w (ReadRet W br s (RqF.bodyR ws r) w) := by
  have hs := hR.small
  have HR := Lib.hid hR; clear hR
  obtain ⟨hz1, hz2⟩ := line_sizes hL
  have hp : 0 < ws.length := by rw [hws]; exact Nat.succ_pos _
  have hh := head_lit hS e0
  have HS := Lib.hid hS; have HWS := Lib.hid hws; have HL := Lib.hid hL; have HH := Lib.hid hh
  by_cases ht : t = []
  · subst ht
    have hd : (((ws.length : Nat) : Int) == 1) = true := by rw [hws]; rfl
    have HB : Hid (RqF.bodyR ws r = some r) := by
      show _ = _
      rw [HWS.out, HH.out]
      rfl
    rw [HB.out]
    show Calls _ _ _ _ (ReadYes W br s r w)
    clear hz1 hz2 hS hws hL hh
    go_enter Tryz.func22, Tryz.ntmps22
    go_wp2_with fail
    refine (line_at W br k s _ _ _ HR.out HL.out).mono ?_
    rintro e w1 ⟨g, j, hg, rfl, hw, hr, hR1, hgr⟩
    have HW := Lib.hid hw; have HR1 := Lib.hid hR1; have HG := Lib.hid hgr; have HRr := Lib.hid hr
    clear hw hR1 hgr hr hg
    have c0 : w1.cell? ⟨g, 0, none⟩ = some (.string S) := words_head HW.out HWS.out HS.out
    go_wp2_with fail
    go_ret
    exact ⟨rfl, ⟨j, HRr.out, HR1.out⟩, HG.out⟩
  · have hd : (((ws.length : Nat) : Int) == 1) = false := by
      rw [beq_eq_false_iff_ne, hws, List.length_cons]
      have := List.length_pos_iff.2 ht
      omega
    have HB : Hid (RqF.bodyR ws r = none) := by
      show _ = _
      rw [HWS.out, HH.out]
      show (if t = [] then some r else none) = none
      rw [if_neg ht]
    rw [HB.out]
    show Calls _ _ _ _ (ReadNo W br w)
    clear hz1 hz2 hS hws hL hh
    go_enter Tryz.func22, Tryz.ntmps22
    go_wp2_with fail
    refine (line_at W br k s _ _ _ HR.out HL.out).mono ?_
    rintro e w1 ⟨g, j, hg, rfl, hw, hr, hR1, hgr⟩
    have HW := Lib.hid hw; have HR1 := Lib.hid hR1; have HG := Lib.hid hgr; have HRr := Lib.hid hr
    clear hw hR1 hgr hr hg
    have c0 : w1.cell? ⟨g, 0, none⟩ = some (.string S) := words_head HW.out HWS.out HS.out
    go_wp2_with fail
    go_ret
    exact ⟨rfl, HG.out⟩
set_option maxRecDepth 100000 in
set_option maxHeartbeats 2000000 in
theorem ans_NONE (W : World) (br k : Nat) (s : ByteArray) (ws : List (List UInt8)) (h r : List UInt8) (t : List (List UInt8)) (S : ByteArray) (w : World) (hR : Rd W br s k w) (hL : RqF.lineR (s.data.toList.drop k) = some (ws, r)) (hws : ws = h :: t) (hS : S = ⟨h.toArray⟩)
    (e0 : (S.toList == [79, 75]) = false) (e1 : (S.toList == [78, 79, 78, 69]) = true) :
    Calls Tryz.prog 22 #[.pointer (some ⟨br, 0, none⟩)] w (ReadRet W br s (RqF.bodyR ws r) w) := by
  have hs := hR.small
  have HR := Lib.hid hR; clear hR
  obtain ⟨hz1, hz2⟩ := line_sizes hL
  have hp : 0 < ws.length := by rw [hws]; exact Nat.succ_pos _
  have hh := head_lit hS e1
  have HS := Lib.hid hS; have HWS := Lib.hid hws; have HL := Lib.hid hL; have HH := Lib.hid hh
  by_cases ht : t = []
  · subst ht
    have hd : (((ws.length : Nat) : Int) == 1) = true := by rw [hws]; rfl
    have HB : Hid (RqF.bodyR ws r = some r) := by
      show _ = _
      rw [HWS.out, HH.out]
      rfl
    rw [HB.out]
    show Calls _ _ _ _ (ReadYes W br s r w)
    clear hz1 hz2 hS hws hL hh
    go_enter Tryz.func22, Tryz.ntmps22
    go_wp2_with fail
    refine (line_at W br k s _ _ _ HR.out HL.out).mono ?_
    rintro e w1 ⟨g, j, hg, rfl, hw, hr, hR1, hgr⟩
    have HW := Lib.hid hw; have HR1 := Lib.hid hR1; have HG := Lib.hid hgr; have HRr := Lib.hid hr
    clear hw hR1 hgr hr hg
    have c0 : w1.cell? ⟨g, 0, none⟩ = some (.string S) := words_head HW.out HWS.out HS.out
    go_wp2_with fail
    go_ret
    exact ⟨rfl, ⟨j, HRr.out, HR1.out⟩, HG.out⟩
  · have hd : (((ws.length : Nat) : Int) == 1) = false := by
      rw [beq_eq_false_iff_ne, hws, List.length_cons]
      have := List.length_pos_iff.2 ht
      omega
    have HB : Hid (RqF.bodyR ws r = none) := by
      show _ = _
      rw [HWS.out, HH.out]
      show (if t = [] then some r else none) = none
      rw [if_neg ht]
    rw [HB.out]
    show Calls _ _ _ _ (ReadNo W br w)
    clear hz1 hz2 hS hws hL hh
    go_enter Tryz.func22, Tryz.ntmps22
    go_wp2_with fail
    refine (line_at W br k s _ _ _ HR.out HL.out).mono ?_
    rintro e w1 ⟨g, j, hg, rfl, hw, hr, hR1, hgr⟩
    have HW := Lib.hid hw; have HR1 := Lib.hid hR1; have HG := Lib.hid hgr; have HRr := Lib.hid hr
    clear hw hR1 hgr hr hg
    have c0 : w1.cell? ⟨g, 0, none⟩ = some (.string S) := words_head HW.out HWS.out HS.out
    go_wp2_with fail
    go_ret
    exact ⟨rfl, HG.out⟩
set_option maxRecDepth 100000 in
set_option maxHeartbeats 2000000 in
theorem ans_YES (W : World) (br k : Nat) (s : ByteArray) (ws : List (List UInt8)) (h r : List UInt8) (t : List (List UInt8)) (S : ByteArray) (w : World) (hR : Rd W br s k w) (hL : RqF.lineR (s.data.toList.drop k) = some (ws, r)) (hws : ws = h :: t) (hS : S = ⟨h.toArray⟩)
    (e0 : (S.toList == [79, 75]) = false) (e1 : (S.toList == [78, 79, 78, 69]) = false) (e2 : (S.toList == [89, 69, 83]) = true) :
    Calls Tryz.prog 22 #[.pointer (some ⟨br, 0, none⟩)] w (ReadRet W br s (RqF.bodyR ws r) w) := by
  have hs := hR.small
  have HR := Lib.hid hR; clear hR
  obtain ⟨hz1, hz2⟩ := line_sizes hL
  have hp : 0 < ws.length := by rw [hws]; exact Nat.succ_pos _
  have hh := head_lit hS e2
  have HS := Lib.hid hS; have HWS := Lib.hid hws; have HL := Lib.hid hL; have HH := Lib.hid hh
  by_cases ht : t = []
  · subst ht
    have hd : (((ws.length : Nat) : Int) == 1) = true := by rw [hws]; rfl
    have HB : Hid (RqF.bodyR ws r = some r) := by
      show _ = _
      rw [HWS.out, HH.out]
      rfl
    rw [HB.out]
    show Calls _ _ _ _ (ReadYes W br s r w)
    clear hz1 hz2 hS hws hL hh
    go_enter Tryz.func22, Tryz.ntmps22
    go_wp2_with fail
    refine (line_at W br k s _ _ _ HR.out HL.out).mono ?_
    rintro e w1 ⟨g, j, hg, rfl, hw, hr, hR1, hgr⟩
    have HW := Lib.hid hw; have HR1 := Lib.hid hR1; have HG := Lib.hid hgr; have HRr := Lib.hid hr
    clear hw hR1 hgr hr hg
    have c0 : w1.cell? ⟨g, 0, none⟩ = some (.string S) := words_head HW.out HWS.out HS.out
    go_wp2_with fail
    go_ret
    exact ⟨rfl, ⟨j, HRr.out, HR1.out⟩, HG.out⟩
  · have hd : (((ws.length : Nat) : Int) == 1) = false := by
      rw [beq_eq_false_iff_ne, hws, List.length_cons]
      have := List.length_pos_iff.2 ht
      omega
    have HB : Hid (RqF.bodyR ws r = none) := by
      show _ = _
      rw [HWS.out, HH.out]
      show (if t = [] then some r else none) = none
      rw [if_neg ht]
    rw [HB.out]
    show Calls _ _ _ _ (ReadNo W br w)
    clear hz1 hz2 hS hws hL hh
    go_enter Tryz.func22, Tryz.ntmps22
    go_wp2_with fail
    refine (line_at W br k s _ _ _ HR.out HL.out).mono ?_
    rintro e w1 ⟨g, j, hg, rfl, hw, hr, hR1, hgr⟩
    have HW := Lib.hid hw; have HR1 := Lib.hid hR1; have HG := Lib.hid hgr; have HRr := Lib.hid hr
    clear hw hR1 hgr hr hg
    have c0 : w1.cell? ⟨g, 0, none⟩ = some (.string S) := words_head HW.out HWS.out HS.out
    go_wp2_with fail
    go_ret
    exact ⟨rfl, HG.out⟩
set_option maxRecDepth 100000 in
set_option maxHeartbeats 2000000 in
theorem ans_NO (W : World) (br k : Nat) (s : ByteArray) (ws : List (List UInt8)) (h r : List UInt8) (t : List (List UInt8)) (S : ByteArray) (w : World) (hR : Rd W br s k w) (hL : RqF.lineR (s.data.toList.drop k) = some (ws, r)) (hws : ws = h :: t) (hS : S = ⟨h.toArray⟩)
    (e0 : (S.toList == [79, 75]) = false) (e1 : (S.toList == [78, 79, 78, 69]) = false) (e2 : (S.toList == [89, 69, 83]) = false) (e3 : (S.toList == [78, 79]) = true) :
    Calls Tryz.prog 22 #[.pointer (some ⟨br, 0, none⟩)] w (ReadRet W br s (RqF.bodyR ws r) w) := by
  have hs := hR.small
  have HR := Lib.hid hR; clear hR
  obtain ⟨hz1, hz2⟩ := line_sizes hL
  have hp : 0 < ws.length := by rw [hws]; exact Nat.succ_pos _
  have hh := head_lit hS e3
  have HS := Lib.hid hS; have HWS := Lib.hid hws; have HL := Lib.hid hL; have HH := Lib.hid hh
  by_cases ht : t = []
  · subst ht
    have hd : (((ws.length : Nat) : Int) == 1) = true := by rw [hws]; rfl
    have HB : Hid (RqF.bodyR ws r = some r) := by
      show _ = _
      rw [HWS.out, HH.out]
      rfl
    rw [HB.out]
    show Calls _ _ _ _ (ReadYes W br s r w)
    clear hz1 hz2 hS hws hL hh
    go_enter Tryz.func22, Tryz.ntmps22
    go_wp2_with fail
    refine (line_at W br k s _ _ _ HR.out HL.out).mono ?_
    rintro e w1 ⟨g, j, hg, rfl, hw, hr, hR1, hgr⟩
    have HW := Lib.hid hw; have HR1 := Lib.hid hR1; have HG := Lib.hid hgr; have HRr := Lib.hid hr
    clear hw hR1 hgr hr hg
    have c0 : w1.cell? ⟨g, 0, none⟩ = some (.string S) := words_head HW.out HWS.out HS.out
    go_wp2_with fail
    go_ret
    exact ⟨rfl, ⟨j, HRr.out, HR1.out⟩, HG.out⟩
  · have hd : (((ws.length : Nat) : Int) == 1) = false := by
      rw [beq_eq_false_iff_ne, hws, List.length_cons]
      have := List.length_pos_iff.2 ht
      omega
    have HB : Hid (RqF.bodyR ws r = none) := by
      show _ = _
      rw [HWS.out, HH.out]
      show (if t = [] then some r else none) = none
      rw [if_neg ht]
    rw [HB.out]
    show Calls _ _ _ _ (ReadNo W br w)
    clear hz1 hz2 hS hws hL hh
    go_enter Tryz.func22, Tryz.ntmps22
    go_wp2_with fail
    refine (line_at W br k s _ _ _ HR.out HL.out).mono ?_
    rintro e w1 ⟨g, j, hg, rfl, hw, hr, hR1, hgr⟩
    have HW := Lib.hid hw; have HR1 := Lib.hid hR1; have HG := Lib.hid hgr; have HRr := Lib.hid hr
    clear hw hR1 hgr hr hg
    have c0 : w1.cell? ⟨g, 0, none⟩ = some (.string S) := words_head HW.out HWS.out HS.out
    go_wp2_with fail
    go_ret
    exact ⟨rfl, HG.out⟩
set_option maxRecDepth 100000 in
set_option maxHeartbeats 2000000 in
theorem ans_ERR (W : World) (br k : Nat) (s : ByteArray) (ws : List (List UInt8)) (h r : List UInt8) (t : List (List UInt8)) (S : ByteArray) (w : World) (hR : Rd W br s k w) (hL : RqF.lineR (s.data.toList.drop k) = some (ws, r)) (hws : ws = h :: t) (hS : S = ⟨h.toArray⟩)
    (e0 : (S.toList == [79, 75]) = false) (e1 : (S.toList == [78, 79, 78, 69]) = false) (e2 : (S.toList == [89, 69, 83]) = false) (e3 : (S.toList == [78, 79]) = false) (e4 : (S.toList == [69, 82, 82]) = true) :
    Calls Tryz.prog 22 #[.pointer (some ⟨br, 0, none⟩)] w (ReadRet W br s (RqF.bodyR ws r) w) := by
  have hs := hR.small
  have HR := Lib.hid hR; clear hR
  obtain ⟨hz1, hz2⟩ := line_sizes hL
  have hp : 0 < ws.length := by rw [hws]; exact Nat.succ_pos _
  have hh := head_lit hS e4
  have HS := Lib.hid hS; have HWS := Lib.hid hws; have HL := Lib.hid hL; have HH := Lib.hid hh
  by_cases hn : ws.length = 2
  · obtain ⟨x, rfl⟩ : ∃ x, t = [x] := by rw [hws] at hn; exact List.length_eq_one_iff.1 (by simpa using hn)
    subst hws
    have hx := hz2 x (by simp)
    clear hz1 hz2 hS hL hn hp
    obtain ⟨X, hX⟩ : ∃ X : ByteArray, X = ⟨x.toArray⟩ := ⟨_, rfl⟩
    have hXd : X.data.toList = x := by rw [hX]
    have hXs : X.size ≤ 4294967296 := by rw [hX, size_word]; omega
    have HX := Lib.hid hX; clear hX
    cases hc : Lib.contains RqF.errText ([32] ++ X.data.toList ++ [32]) with
    | false =>
      have HB : Hid (RqF.bodyR [h, x] r = none) := by
        show _ = _
        rw [HH.out]
        show (if RqF.errR x = true then some r else none) = none
        unfold RqF.errR
        rw [← hXd, hc, if_neg (by simp)]
      rw [HB.out]
      show Calls _ _ _ _ (ReadNo W br w)
      have HC := Lib.hid hc; clear hc hXd hh
      go_enter Tryz.func22, Tryz.ntmps22
      go_wp2_with fail
      refine (line_at W br k s _ _ _ HR.out HL.out).mono ?_
      rintro e w1 ⟨g, j, hg, rfl, hw, hr, hR1, hgr⟩
      have HW := Lib.hid hw; have HR1 := Lib.hid hR1; have HG := Lib.hid hgr; have HRr := Lib.hid hr
      clear hw hR1 hgr hr hg
      have c0 : w1.cell? ⟨g, 0, none⟩ = some (.string S) := words_head HW.out rfl HS.out
      have c1 : w1.cell? ⟨g, 1, none⟩ = some (.string X) := by rw [HX.out]; exact words_cell HW.out 1 (by simp)
      go_wp2_with fail
      refine (contains_err X false _ HR1.out.tabsM HC.out).mono ?_
      rintro e w2 ⟨rfl, rfl⟩
      go_wp2_with fail
      go_ret
      exact ⟨rfl, HG.out⟩
    | true =>
      cases hE : X.toList.isEmpty with
      | true =>
        have hX0 : X.toList = [] := List.isEmpty_iff.1 hE
        have hE2 : (X.toList != []) = false := by rw [hX0]; rfl
        have HB : Hid (RqF.bodyR [h, x] r = none) := by
          show _ = _
          rw [HH.out]
          show (if RqF.errR x = true then some r else none) = none
          unfold RqF.errR
          rw [if_neg]
          rw [← hXd, ← ByteArray.toList_eq, hX0]
          simp
        rw [HB.out]
        show Calls _ _ _ _ (ReadNo W br w)
        have HC := Lib.hid hc; clear hc hXd hh
        go_enter Tryz.func22, Tryz.ntmps22
        go_wp2_with fail
        refine (line_at W br k s _ _ _ HR.out HL.out).mono ?_
        rintro e w1 ⟨g, j, hg, rfl, hw, hr, hR1, hgr⟩
        have HW := Lib.hid hw; have HR1 := Lib.hid hR1; have HG := Lib.hid hgr; have HRr := Lib.hid hr
        clear hw hR1 hgr hr hg
        have c0 : w1.cell? ⟨g, 0, none⟩ = some (.string S) := words_head HW.out rfl HS.out
        have c1 : w1.cell? ⟨g, 1, none⟩ = some (.string X) := by rw [HX.out]; exact words_cell HW.out 1 (by simp)
        go_wp2_with fail
        refine (contains_err X true _ HR1.out.tabsM HC.out).mono ?_
        rintro e w2 ⟨rfl, rfl⟩
        go_wp2_with fail
        go_ret
        exact ⟨rfl, HG.out⟩
      | false =>
        have hX0 : X.toList ≠ [] := fun e => by rw [e] at hE; cases hE
        have hE2 : (X.toList != []) = true := by rw [bne_iff_ne]; exact hX0
        have hE3 : (X.toList == []) = false := by rw [beq_eq_false_iff_ne]; exact hX0
        have HB : Hid (RqF.bodyR [h, x] r = some r) := by
          show _ = _
          rw [HH.out]
          show (if RqF.errR x = true then some r else none) = some r
          unfold RqF.errR
          rw [if_pos]
          rw [← hXd, hc, ← ByteArray.toList_eq]
          simp [hX0]
        rw [HB.out]
        show Calls _ _ _ _ (ReadYes W br s r w)
        have HC := Lib.hid hc; have HX0 := Lib.hid hX0; clear hc hXd hh hX0
        go_enter Tryz.func22, Tryz.ntmps22
        go_wp2_with fail
        refine (line_at W br k s _ _ _ HR.out HL.out).mono ?_
        rintro e w1 ⟨g, j, hg, rfl, hw, hr, hR1, hgr⟩
        have HW := Lib.hid hw; have HR1 := Lib.hid hR1; have HG := Lib.hid hgr; have HRr := Lib.hid hr
        clear hw hR1 hgr hr hg
        have c0 : w1.cell? ⟨g, 0, none⟩ = some (.string S) := words_head HW.out rfl HS.out
        have c1 : w1.cell? ⟨g, 1, none⟩ = some (.string X) := by rw [HX.out]; exact words_cell HW.out 1 (by simp)
        go_wp2_with fail
        refine (contains_err X true _ HR1.out.tabsM HC.out).mono ?_
        rintro e w2 ⟨rfl, rfl⟩
        go_wp2_with fail
        go_ret
        exact ⟨rfl, ⟨j, HRr.out, HR1.out⟩, HG.out⟩
  · have hd : (((ws.length : Nat) : Int) == 2) = false := by rw [beq_eq_false_iff_ne]; omega
    have hd2 : (((ws.length : Nat) : Int) != 2) = true := by rw [bne, hd]; rfl
    have HB : Hid (RqF.bodyR ws r = none) := by
      show _ = _
      rw [HWS.out, HH.out]
      rw [HWS.out] at hn
      show (match t with | [a] => _ | _ => none) = none
      split
      · exact absurd rfl hn
      · rfl
    rw [HB.out]
    show Calls _ _ _ _ (ReadNo W br w)
    clear hz2 hS hws hL hh
    go_enter Tryz.func22, Tryz.ntmps22
    go_wp2_with fail
    refine (line_at W br k s _ _ _ HR.out HL.out).mono ?_
    rintro e w1 ⟨g, j, hg, rfl, hw, hr, hR1, hgr⟩
    have HW := Lib.hid hw; have HR1 := Lib.hid hR1; have HG := Lib.hid hgr; have HRr := Lib.hid hr
    clear hw hR1 hgr hr hg
    have c0 : w1.cell? ⟨g, 0, none⟩ = some (.string S) := words_head HW.out HWS.out HS.out
    go_wp2_with fail
    go_ret
    exact ⟨rfl, HG.out⟩
set_option maxRecDepth 100000 in
set_option maxHeartbeats 2000000 in
theorem ans_VALUE (W : World) (br k : Nat) (s : ByteArray) (ws : List (List UInt8)) (h r : List UInt8) (t : List (List UInt8)) (S : ByteArray) (w : World) (hR : Rd W br s k w) (hL : RqF.lineR (s.data.toList.drop k) = some (ws, r)) (hws : ws = h :: t) (hS : S = ⟨h.toArray⟩)
    (e0 : (S.toList == [79, 75]) = false) (e1 : (S.toList == [78, 79, 78, 69]) = false) (e2 : (S.toList == [89, 69, 83]) = false) (e3 : (S.toList == [78, 79]) = false) (e4 : (S.toList == [69, 82, 82]) = false) (e5 : (S.toList == [86, 65, 76, 85, 69]) = true) :
    Calls Tryz.prog 22 #[.pointer (some ⟨br, 0, none⟩)] w (ReadRet W br s (RqF.bodyR ws r) w) := by
  have hs := hR.small
  have HR := Lib.hid hR; clear hR
  obtain ⟨hz1, hz2⟩ := line_sizes hL
  have hp : 0 < ws.length := by rw [hws]; exact Nat.succ_pos _
  have hh := head_lit hS e5
  have HS := Lib.hid hS; have HWS := Lib.hid hws; have HL := Lib.hid hL; have HH := Lib.hid hh
  by_cases hn : ws.length = 2
  · obtain ⟨x, rfl⟩ : ∃ x, t = [x] := by rw [hws] at hn; exact List.length_eq_one_iff.1 (by simpa using hn)
    subst hws
    have hx := hz2 x (by simp)
    clear hz1 hz2 hS hL hn hp
    cases hv : RqF.valueR x r with
    | none =>
      have HB : Hid (RqF.bodyR [h, x] r = none) := by
        show _ = _
        rw [HH.out]
        exact hv
      rw [HB.out]
      show Calls _ _ _ _ (ReadNo W br w)
      have HV := Lib.hid hv; clear hv hh
      go_enter Tryz.func22, Tryz.ntmps22
      go_wp2_with fail
      refine (line_at W br k s _ _ _ HR.out HL.out).mono ?_
      rintro e w1 ⟨g, j, hg, rfl, hw, hr, hR1, hgr⟩
      have HW := Lib.hid hw; have HR1 := Lib.hid hR1; have HG := Lib.hid hgr; have HRr := Lib.hid hr
      clear hw hR1 hgr hr hg
      have c0 : w1.cell? ⟨g, 0, none⟩ = some (.string S) := words_head HW.out rfl HS.out
      have c1 : w1.cell? ⟨g, 1, none⟩ = some (.string ⟨x.toArray⟩) := words_cell HW.out 1 (by simp)
      go_wp2_with fail
      refine (value_no_at W br j s x r _ HR1.out (by omega) HRr.out HV.out).mono ?_
      rintro e w2 ⟨rfl, hg2⟩
      go_wp2_with fail
      go_ret
      exact ⟨rfl, HG.out.trans hg2⟩
    | some q =>
      have HB : Hid (RqF.bodyR [h, x] r = some q) := by
        show _ = _
        rw [HH.out]
        exact hv
      rw [HB.out]
      show Calls _ _ _ _ (ReadYes W br s q w)
      have HV := Lib.hid hv; clear hv hh
      go_enter Tryz.func22, Tryz.ntmps22
      go_wp2_with fail
      refine (line_at W br k s _ _ _ HR.out HL.out).mono ?_
      rintro e w1 ⟨g, j, hg, rfl, hw, hr, hR1, hgr⟩
      have HW := Lib.hid hw; have HR1 := Lib.hid hR1; have HG := Lib.hid hgr; have HRr := Lib.hid hr
      clear hw hR1 hgr hr hg
      have c0 : w1.cell? ⟨g, 0, none⟩ = some (.string S) := words_head HW.out rfl HS.out
      have c1 : w1.cell? ⟨g, 1, none⟩ = some (.string ⟨x.toArray⟩) := words_cell HW.out 1 (by simp)
      go_wp2_with fail
      refine (value_yes_at W br j s x r q _ HR1.out (by omega) HRr.out HV.out).mono ?_
      rintro e w2 ⟨rfl, hr2, hg2⟩
      have HR2 := Lib.hid hr2; clear hr2
      go_wp2_with fail
      go_ret
      exact ⟨rfl, HR2.out, HG.out.trans hg2⟩
  · have hd : (((ws.length : Nat) : Int) == 2) = false := by rw [beq_eq_false_iff_ne]; omega
    have hd2 : (((ws.length : Nat) : Int) != 2) = true := by rw [bne, hd]; rfl
    have HB : Hid (RqF.bodyR ws r = none) := by
      show _ = _
      rw [HWS.out, HH.out]
      rw [HWS.out] at hn
      show (match t with | [a] => _ | _ => none) = none
      split
      · exact absurd rfl hn
      · rfl
    rw [HB.out]
    show Calls _ _ _ _ (ReadNo W br w)
    clear hz2 hS hws hL hh
    go_enter Tryz.func22, Tryz.ntmps22
    go_wp2_with fail
    refine (line_at W br k s _ _ _ HR.out HL.out).mono ?_
    rintro e w1 ⟨g, j, hg, rfl, hw, hr, hR1, hgr⟩
    have HW := Lib.hid hw; have HR1 := Lib.hid hR1; have HG := Lib.hid hgr; have HRr := Lib.hid hr
    clear hw hR1 hgr hr hg
    have c0 : w1.cell? ⟨g, 0, none⟩ = some (.string S) := words_head HW.out HWS.out HS.out
    go_wp2_with fail
    go_ret
    exact ⟨rfl, HG.out⟩
set_option maxRecDepth 100000 in
set_option maxHeartbeats 2000000 in
theorem ans_PAIRS (W : World) (br k : Nat) (s : ByteArray) (ws : List (List UInt8)) (h r : List UInt8) (t : List (List UInt8)) (S : ByteArray) (w : World) (hR : Rd W br s k w) (hL : RqF.lineR (s.data.toList.drop k) = some (ws, r)) (hws : ws = h :: t) (hS : S = ⟨h.toArray⟩)
    (e0 : (S.toList == [79, 75]) = false) (e1 : (S.toList == [78, 79, 78, 69]) = false) (e2 : (S.toList == [89, 69, 83]) = false) (e3 : (S.toList == [78, 79]) = false) (e4 : (S.toList == [69, 82, 82]) = false) (e5 : (S.toList == [86, 65, 76, 85, 69]) = false) (e6 : (S.toList == [80, 65, 73, 82, 83]) = true) :
    Calls Tryz.prog 22 #[.pointer (some ⟨br, 0, none⟩)] w (ReadRet W br s (RqF.bodyR ws r) w) := by
  have hs := hR.small
  have HR := Lib.hid hR; clear hR
  obtain ⟨hz1, hz2⟩ := line_sizes hL
  have hp : 0 < ws.length := by rw [hws]; exact Nat.succ_pos _
  have hh := head_lit hS e6
  have HS := Lib.hid hS; have HWS := Lib.hid hws; have HL := Lib.hid hL; have HH := Lib.hid hh
  cases hv : RqF.manyR RqF.pairR ws r with
  | none =>
    have HB : Hid (RqF.bodyR ws r = none) := by
      show _ = _
      rw [HWS.out, HH.out]
      rw [HWS.out, HH.out] at hv
      exact hv
    rw [HB.out]
    show Calls _ _ _ _ (ReadNo W br w)
    have HV := Lib.hid hv; have HZ := Lib.hid hz2; clear hv hh hS hws hL hz2
    go_enter Tryz.func22, Tryz.ntmps22
    go_wp2_with fail
    refine (line_at W br k s _ _ _ HR.out HL.out).mono ?_
    rintro e w1 ⟨g, j, hg, rfl, hw, hr, hR1, hgr⟩
    have HW := Lib.hid hw; have HR1 := Lib.hid hR1; have HG := Lib.hid hgr; have HRr := Lib.hid hr
    clear hw hR1 hgr hr hg
    have c0 : w1.cell? ⟨g, 0, none⟩ = some (.string S) := words_head HW.out HWS.out HS.out
    go_wp2_with fail
    have hm := many_pair W br j g s ws w1 HR1.out HW.out hz1 HZ.out
    rw [← HRr.out, HV.out] at hm
    have hm2 : Calls Tryz.prog 39 _ w1 (ReadNo W br w1) := hm
    clear hm
    refine hm2.mono ?_
    clear hm2
    rintro e w2 ⟨rfl, hg2⟩
    go_wp2_with fail
    go_ret
    exact ⟨rfl, HG.out.trans hg2⟩
  | some q =>
    have HB : Hid (RqF.bodyR ws r = some q) := by
      show _ = _
      rw [HWS.out, HH.out]
      rw [HWS.out, HH.out] at hv
      exact hv
    rw [HB.out]
    show Calls _ _ _ _ (ReadYes W br s q w)
    have HV := Lib.hid hv; have HZ := Lib.hid hz2; clear hv hh hS hws hL hz2
    go_enter Tryz.func22, Tryz.ntmps22
    go_wp2_with fail
    refine (line_at W br k s _ _ _ HR.out HL.out).mono ?_
    rintro e w1 ⟨g, j, hg, rfl, hw, hr, hR1, hgr⟩
    have HW := Lib.hid hw; have HR1 := Lib.hid hR1; have HG := Lib.hid hgr; have HRr := Lib.hid hr
    clear hw hR1 hgr hr hg
    have c0 : w1.cell? ⟨g, 0, none⟩ = some (.string S) := words_head HW.out HWS.out HS.out
    go_wp2_with fail
    have hm := many_pair W br j g s ws w1 HR1.out HW.out hz1 HZ.out
    rw [← HRr.out, HV.out] at hm
    have hm2 : Calls Tryz.prog 39 _ w1 (ReadYes W br s q w1) := hm
    clear hm
    refine hm2.mono ?_
    clear hm2
    rintro e w2 ⟨rfl, hr2, hg2⟩
    have HR2 := Lib.hid hr2; clear hr2
    go_wp2_with fail
    go_ret
    exact ⟨rfl, HR2.out, HG.out.trans hg2⟩
set_option maxRecDepth 100000 in
set_option maxHeartbeats 2000000 in
theorem ans_SCORED (W : World) (br k : Nat) (s : ByteArray) (ws : List (List UInt8)) (h r : List UInt8) (t : List (List UInt8)) (S : ByteArray) (w : World) (hR : Rd W br s k w) (hL : RqF.lineR (s.data.toList.drop k) = some (ws, r)) (hws : ws = h :: t) (hS : S = ⟨h.toArray⟩)
    (e0 : (S.toList == [79, 75]) = false) (e1 : (S.toList == [78, 79, 78, 69]) = false) (e2 : (S.toList == [89, 69, 83]) = false) (e3 : (S.toList == [78, 79]) = false) (e4 : (S.toList == [69, 82, 82]) = false) (e5 : (S.toList == [86, 65, 76, 85, 69]) = false) (e6 : (S.toList == [80, 65, 73, 82, 83]) = false) (e7 : (S.toList == [83, 67, 79, 82, 69, 68]) = true) :
    Calls Tryz.prog 22 #[.pointer (some ⟨br, 0, none⟩)] w (ReadRet W br s (RqF.bodyR ws r) w) := by
  have hs := hR.small
  have HR := Lib.hid hR; clear hR
  obtain ⟨hz1, hz2⟩ := line_sizes hL
  have hp : 0 < ws.length := by rw [hws]; exact Nat.succ_pos _
  have hh := head_lit hS e7
  have HS := Lib.hid hS; have HWS := Lib.hid hws; have HL := Lib.hid hL; have HH := Lib.hid hh
  cases hv : RqF.manyR RqF.scoredR ws r with
  | none =>
    have HB : Hid (RqF.bodyR ws r = none) := by
      show _ = _
      rw [HWS.out, HH.out]
      rw [HWS.out, HH.out] at hv
      exact hv
    rw [HB.out]
    show Calls _ _ _ _ (ReadNo W br w)
    have HV := Lib.hid hv; have HZ := Lib.hid hz2; clear hv hh hS hws hL hz2
    go_enter Tryz.func22, Tryz.ntmps22
    go_wp2_with fail
    refine (line_at W br k s _ _ _ HR.out HL.out).mono ?_
    rintro e w1 ⟨g, j, hg, rfl, hw, hr, hR1, hgr⟩
    have HW := Lib.hid hw; have HR1 := Lib.hid hR1; have HG := Lib.hid hgr; have HRr := Lib.hid hr
    clear hw hR1 hgr hr hg
    have c0 : w1.cell? ⟨g, 0, none⟩ = some (.string S) := words_head HW.out HWS.out HS.out
    go_wp2_with fail
    have hm := many_scored W br j g s ws w1 HR1.out HW.out hz1 HZ.out
    rw [← HRr.out, HV.out] at hm
    have hm2 : Calls Tryz.prog 39 _ w1 (ReadNo W br w1) := hm
    clear hm
    refine hm2.mono ?_
    clear hm2
    rintro e w2 ⟨rfl, hg2⟩
    go_wp2_with fail
    go_ret
    exact ⟨rfl, HG.out.trans hg2⟩
  | some q =>
    have HB : Hid (RqF.bodyR ws r = some q) := by
      show _ = _
      rw [HWS.out, HH.out]
      rw [HWS.out, HH.out] at hv
      exact hv
    rw [HB.out]
    show Calls _ _ _ _ (ReadYes W br s q w)
    have HV := Lib.hid hv; have HZ := Lib.hid hz2; clear hv hh hS hws hL hz2
    go_enter Tryz.func22, Tryz.ntmps22
    go_wp2_with fail
    refine (line_at W br k s _ _ _ HR.out HL.out).mono ?_
    rintro e w1 ⟨g, j, hg, rfl, hw, hr, hR1, hgr⟩
    have HW := Lib.hid hw; have HR1 := Lib.hid hR1; have HG := Lib.hid hgr; have HRr := Lib.hid hr
    clear hw hR1 hgr hr hg
    have c0 : w1.cell? ⟨g, 0, none⟩ = some (.string S) := words_head HW.out HWS.out HS.out
    go_wp2_with fail
    have hm := many_scored W br j g s ws w1 HR1.out HW.out hz1 HZ.out
    rw [← HRr.out, HV.out] at hm
    have hm2 : Calls Tryz.prog 39 _ w1 (ReadYes W br s q w1) := hm
    clear hm
    refine hm2.mono ?_
    clear hm2
    rintro e w2 ⟨rfl, hr2, hg2⟩
    have HR2 := Lib.hid hr2; clear hr2
    go_wp2_with fail
    go_ret
    exact ⟨rfl, HR2.out, HG.out.trans hg2⟩
set_option maxRecDepth 100000 in
set_option maxHeartbeats 2000000 in
theorem ans_SCORE (W : World) (br k : Nat) (s : ByteArray) (ws : List (List UInt8)) (h r : List UInt8) (t : List (List UInt8)) (S : ByteArray) (w : World) (hR : Rd W br s k w) (hL : RqF.lineR (s.data.toList.drop k) = some (ws, r)) (hws : ws = h :: t) (hS : S = ⟨h.toArray⟩)
    (e0 : (S.toList == [79, 75]) = false) (e1 : (S.toList == [78, 79, 78, 69]) = false) (e2 : (S.toList == [89, 69, 83]) = false) (e3 : (S.toList == [78, 79]) = false) (e4 : (S.toList == [69, 82, 82]) = false) (e5 : (S.toList == [86, 65, 76, 85, 69]) = false) (e6 : (S.toList == [80, 65, 73, 82, 83]) = false) (e7 : (S.toList == [83, 67, 79, 82, 69, 68]) = false) (e8 : (S.toList == [83, 67, 79, 82, 69]) = true) :
    Calls Tryz.prog 22 #[.pointer (some ⟨br, 0, none⟩)] w (ReadRet W br s (RqF.bodyR ws r) w) := by
  have hs := hR.small
  have HR := Lib.hid hR; clear hR
  obtain ⟨hz1, hz2⟩ := line_sizes hL
  have hp : 0 < ws.length := by rw [hws]; exact Nat.succ_pos _
  have hh := head_lit hS e8
  have HS := Lib.hid hS; have HWS := Lib.hid hws; have HL := Lib.hid hL; have HH := Lib.hid hh
  by_cases hn : ws.length = 2
  · obtain ⟨x, rfl⟩ : ∃ x, t = [x] := by rw [hws] at hn; exact List.length_eq_one_iff.1 (by simpa using hn)
    subst hws
    have hx := hz2 x (by simp)
    clear hz1 hz2 hS hL hn hp
    cases hv : RqF.isScore x with
    | false =>
      have HB : Hid (RqF.bodyR [h, x] r = none) := by
        show _ = _
        rw [HH.out]
        show (if RqF.isScore x = true then some r else none) = _
        rw [hv]; rfl
      rw [HB.out]
      show Calls _ _ _ _ (ReadNo W br w)
      have HV := Lib.hid hv; clear hv hh
      go_enter Tryz.func22, Tryz.ntmps22
      go_wp2_with fail
      refine (line_at W br k s _ _ _ HR.out HL.out).mono ?_
      rintro e w1 ⟨g, j, hg, rfl, hw, hr, hR1, hgr⟩
      have HW := Lib.hid hw; have HR1 := Lib.hid hR1; have HG := Lib.hid hgr; have HRr := Lib.hid hr
      clear hw hR1 hgr hr hg
      have c0 : w1.cell? ⟨g, 0, none⟩ = some (.string S) := words_head HW.out rfl HS.out
      have c1 : w1.cell? ⟨g, 1, none⟩ = some (.string ⟨x.toArray⟩) := words_cell HW.out 1 (by simp)
      go_wp2_with fail
      refine (score_is x false _ (by omega) HR1.out.tabsM.toTabsP HV.out).mono ?_
      rintro e w2 ⟨rfl, hb2⟩
      have HB2 := Lib.hid hb2; clear hb2
      go_wp2_with fail
      go_ret
      exact ⟨rfl, HG.out.trans (grown_of_below HB2.out _)⟩
    | true =>
      have HB : Hid (RqF.bodyR [h, x] r = some r) := by
        show _ = _
        rw [HH.out]
        show (if RqF.isScore x = true then some r else none) = _
        rw [hv]; rfl
      rw [HB.out]
      show Calls _ _ _ _ (ReadYes W br s r w)
      have HV := Lib.hid hv; clear hv hh
      go_enter Tryz.func22, Tryz.ntmps22
      go_wp2_with fail
      refine (line_at W br k s _ _ _ HR.out HL.out).mono ?_
      rintro e w1 ⟨g, j, hg, rfl, hw, hr, hR1, hgr⟩
      have HW := Lib.hid hw; have HR1 := Lib.hid hR1; have HG := Lib.hid hgr; have HRr := Lib.hid hr
      clear hw hR1 hgr hr hg
      have c0 : w1.cell? ⟨g, 0, none⟩ = some (.string S) := words_head HW.out rfl HS.out
      have c1 : w1.cell? ⟨g, 1, none⟩ = some (.string ⟨x.toArray⟩) := words_cell HW.out 1 (by simp)
      go_wp2_with fail
      refine (score_is x true _ (by omega) HR1.out.tabsM.toTabsP HV.out).mono ?_
      rintro e w2 ⟨rfl, hb2⟩
      have HB2 := Lib.hid hb2; clear hb2
      go_wp2_with fail
      go_ret
      exact ⟨rfl, ⟨j, HRr.out, HR1.out.next HB2.out⟩, HG.out.trans (grown_of_below HB2.out _)⟩
  · have hd : (((ws.length : Nat) : Int) == 2) = false := by rw [beq_eq_false_iff_ne]; omega
    have hd2 : (((ws.length : Nat) : Int) != 2) = true := by rw [bne, hd]; rfl
    have HB : Hid (RqF.bodyR ws r = none) := by
      show _ = _
      rw [HWS.out, HH.out]
      rw [HWS.out] at hn
      show (match t with | [a] => _ | _ => none) = none
      split
      · exact absurd rfl hn
      · rfl
    rw [HB.out]
    show Calls _ _ _ _ (ReadNo W br w)
    clear hz2 hS hws hL hh
    go_enter Tryz.func22, Tryz.ntmps22
    go_wp2_with fail
    refine (line_at W br k s _ _ _ HR.out HL.out).mono ?_
    rintro e w1 ⟨g, j, hg, rfl, hw, hr, hR1, hgr⟩
    have HW := Lib.hid hw; have HR1 := Lib.hid hR1; have HG := Lib.hid hgr; have HRr := Lib.hid hr
    clear hw hR1 hgr hr hg
    have c0 : w1.cell? ⟨g, 0, none⟩ = some (.string S) := words_head HW.out HWS.out HS.out
    go_wp2_with fail
    go_ret
    exact ⟨rfl, HG.out⟩
set_option maxRecDepth 100000 in
set_option maxHeartbeats 2000000 in
theorem ans_NUMBER (W : World) (br k : Nat) (s : ByteArray) (ws : List (List UInt8)) (h r : List UInt8) (t : List (List UInt8)) (S : ByteArray) (w : World) (hR : Rd W br s k w) (hL : RqF.lineR (s.data.toList.drop k) = some (ws, r)) (hws : ws = h :: t) (hS : S = ⟨h.toArray⟩)
    (e0 : (S.toList == [79, 75]) = false) (e1 : (S.toList == [78, 79, 78, 69]) = false) (e2 : (S.toList == [89, 69, 83]) = false) (e3 : (S.toList == [78, 79]) = false) (e4 : (S.toList == [69, 82, 82]) = false) (e5 : (S.toList == [86, 65, 76, 85, 69]) = false) (e6 : (S.toList == [80, 65, 73, 82, 83]) = false) (e7 : (S.toList == [83, 67, 79, 82, 69, 68]) = false) (e8 : (S.toList == [83, 67, 79, 82, 69]) = false) (e9 : (S.toList == [78, 85, 77, 66, 69, 82]) = true) :
    Calls Tryz.prog 22 #[.pointer (some ⟨br, 0, none⟩)] w (ReadRet W br s (RqF.bodyR ws r) w) := by
  have hs := hR.small
  have HR := Lib.hid hR; clear hR
  obtain ⟨hz1, hz2⟩ := line_sizes hL
  have hp : 0 < ws.length := by rw [hws]; exact Nat.succ_pos _
  have hh := head_lit hS e9
  have HS := Lib.hid hS; have HWS := Lib.hid hws; have HL := Lib.hid hL; have HH := Lib.hid hh
  by_cases hn : ws.length = 2
  · obtain ⟨x, rfl⟩ : ∃ x, t = [x] := by rw [hws] at hn; exact List.length_eq_one_iff.1 (by simpa using hn)
    subst hws
    have hx := hz2 x (by simp)
    clear hz1 hz2 hS hL hn hp
    have hu := unsign_len x
    cases hv : RqF.numP (RqF.unsign x) with
    | none =>
      have HB : Hid (RqF.bodyR [h, x] r = none) := by
        show _ = _
        rw [HH.out]
        show (if RqF.numberR x = true then some r else none) = _
        unfold RqF.numberR
        rw [hv]; rfl
      rw [HB.out]
      show Calls _ _ _ _ (ReadNo W br w)
      have HV := Lib.hid hv; clear hv hh
      go_enter Tryz.func22, Tryz.ntmps22
      go_wp2_with fail
      refine (line_at W br k s _ _ _ HR.out HL.out).mono ?_
      rintro e w1 ⟨g, j, hg, rfl, hw, hr, hR1, hgr⟩
      have HW := Lib.hid hw; have HR1 := Lib.hid hR1; have HG := Lib.hid hgr; have HRr := Lib.hid hr
      clear hw hR1 hgr hr hg
      have c0 : w1.cell? ⟨g, 0, none⟩ = some (.string S) := words_head HW.out rfl HS.out
      have c1 : w1.cell? ⟨g, 1, none⟩ = some (.string ⟨x.toArray⟩) := words_cell HW.out 1 (by simp)
      go_wp2_with fail
      refine (trim_is x _).mono ?_
      rintro e w2 ⟨rfl, rfl⟩
      go_wp2_with fail
      refine (number_none_at _ _ (by omega) HR1.out.tabsM.toTabsP HV.out).mono ?_
      rintro e w2 ⟨n, rfl, hb2⟩
      have HB2 := Lib.hid hb2; clear hb2
      have c1' := cell_later HB2.out c1
      go_wp2_with fail
      go_ret
      exact ⟨rfl, HG.out.trans (grown_of_below HB2.out _)⟩
    | some v =>
      have hv9 := (RqF.numP_some hv).2.2.2
      obtain ⟨X, hX⟩ : ∃ X : ByteArray, X = ⟨x.toArray⟩ := ⟨_, rfl⟩
      have HX := Lib.hid hX; clear hX
      by_cases hv0 : 0 < v
      · have hd : decide (0 < v) = true := by simpa using hv0
        have HB : Hid (RqF.bodyR [h, x] r = some r) := by
          show _ = _
          rw [HH.out]
          show (if RqF.numberR x = true then some r else none) = _
          unfold RqF.numberR
          rw [hv]
          rw [if_pos]
          simp [hv0]
        rw [HB.out]
        show Calls _ _ _ _ (ReadYes W br s r w)
        have HV := Lib.hid hv; clear hv hh
        go_enter Tryz.func22, Tryz.ntmps22
        go_wp2_with fail
        refine (line_at W br k s _ _ _ HR.out HL.out).mono ?_
        rintro e w1 ⟨g, j, hg, rfl, hw, hr, hR1, hgr⟩
        have HW := Lib.hid hw; have HR1 := Lib.hid hR1; have HG := Lib.hid hgr; have HRr := Lib.hid hr
        clear hw hR1 hgr hr hg
        have c0 : w1.cell? ⟨g, 0, none⟩ = some (.string S) := words_head HW.out rfl HS.out
        have c1 : w1.cell? ⟨g, 1, none⟩ = some (.string ⟨x.toArray⟩) := words_cell HW.out 1 (by simp)
        go_wp2_with fail
        refine (trim_is x _).mono ?_
        rintro e w2 ⟨rfl, rfl⟩
        go_wp2_with fail
        refine (number_some_at _ v _ (by omega) HR1.out.tabsM.toTabsP HV.out).mono ?_
        rintro e w2 ⟨rfl, hb2⟩
        have HB2 := Lib.hid hb2; clear hb2
        have c1' := cell_later HB2.out c1
        go_wp2_with fail
        go_ret
        exact ⟨rfl, ⟨j, HRr.out, HR1.out.next HB2.out⟩, HG.out.trans (grown_of_below HB2.out _)⟩
      
      · obtain rfl : v = 0 := by omega
        cases hE : (X.toList == [48]) with
        | false =>
          have HB : Hid (RqF.bodyR [h, x] r = none) := by
            show _ = _
            rw [HH.out]
            show (if RqF.numberR x = true then some r else none) = _
            unfold RqF.numberR
            rw [hv]
            have := head_not HX.out hE
            simp [this]
          rw [HB.out]
          show Calls _ _ _ _ (ReadNo W br w)
          have HV := Lib.hid hv; clear hv hh
          go_enter Tryz.func22, Tryz.ntmps22
          go_wp2_with fail
          refine (line_at W br k s _ _ _ HR.out HL.out).mono ?_
          rintro e w1 ⟨g, j, hg, rfl, hw, hr, hR1, hgr⟩
          have HW := Lib.hid hw; have HR1 := Lib.hid hR1; have HG := Lib.hid hgr; have HRr := Lib.hid hr
          clear hw hR1 hgr hr hg
          have c0 : w1.cell? ⟨g, 0, none⟩ = some (.string S) := words_head HW.out rfl HS.out
          have c1 : w1.cell? ⟨g, 1, none⟩ = some (.string X) := by rw [HX.out]; exact words_cell HW.out 1 (by simp)
          go_wp2_with fail
          rw [HX.out]
          refine (trim_is x _).mono ?_
          rintro e w2 ⟨rfl, rfl⟩
          go_wp2_with fail
          refine (number_some_at _ 0 _ (by omega) HR1.out.tabsM.toTabsP HV.out).mono ?_
          rintro e w2 ⟨rfl, hb2⟩
          have HB2 := Lib.hid hb2; clear hb2
          have c1' := cell_later HB2.out c1
          go_wp2_with fail
          go_ret
          exact ⟨rfl, HG.out.trans (grown_of_below HB2.out _)⟩
        | true =>
          have HB : Hid (RqF.bodyR [h, x] r = some r) := by
            show _ = _
            rw [HH.out]
            show (if RqF.numberR x = true then some r else none) = _
            unfold RqF.numberR
            rw [hv]
            have := head_lit HX.out hE
            simp [this]
          rw [HB.out]
          show Calls _ _ _ _ (ReadYes W br s r w)
          have HV := Lib.hid hv; clear hv hh
          go_enter Tryz.func22, Tryz.ntmps22
          go_wp2_with fail
          refine (line_at W br k s _ _ _ HR.out HL.out).mono ?_
          rintro e w1 ⟨g, j, hg, rfl, hw, hr, hR1, hgr⟩
          have HW := Lib.hid hw; have HR1 := Lib.hid hR1; have HG := Lib.hid hgr; have HRr := Lib.hid hr
          clear hw hR1 hgr hr hg
          have c0 : w1.cell? ⟨g, 0, none⟩ = some (.string S) := words_head HW.out rfl HS.out
          have c1 : w1.cell? ⟨g, 1, none⟩ = some (.string X) := by rw [HX.out]; exact words_cell HW.out 1 (by simp)
          go_wp2_with fail
          rw [HX.out]
          refine (trim_is x _).mono ?_
          rintro e w2 ⟨rfl, rfl⟩
          go_wp2_with fail
          refine (number_some_at _ 0 _ (by omega) HR1.out.tabsM.toTabsP HV.out).mono ?_
          rintro e w2 ⟨rfl, hb2⟩
          have HB2 := Lib.hid hb2; clear hb2
          have c1' := cell_later HB2.out c1
          go_wp2_with fail
          go_ret
          exact ⟨rfl, ⟨j, HRr.out, HR1.out.next HB2.out⟩, HG.out.trans (grown_of_below HB2.out _)⟩
  · have hd : (((ws.length : Nat) : Int) == 2) = false := by rw [beq_eq_false_iff_ne]; omega
    have hd2 : (((ws.length : Nat) : Int) != 2) = true := by rw [bne, hd]; rfl
    have HB : Hid (RqF.bodyR ws r = none) := by
      show _ = _
      rw [HWS.out, HH.out]
      rw [HWS.out] at hn
      show (match t with | [a] => _ | _ => none) = none
      split
      · exact absurd rfl hn
      · rfl
    rw [HB.out]
    show Calls _ _ _ _ (ReadNo W br w)
    clear hz2 hS hws hL hh
    go_enter Tryz.func22, Tryz.ntmps22
    go_wp2_with fail
    refine (line_at W br k s _ _ _ HR.out HL.out).mono ?_
    rintro e w1 ⟨g, j, hg, rfl, hw, hr, hR1, hgr⟩
    have HW := Lib.hid hw; have HR1 := Lib.hid hR1; have HG := Lib.hid hgr; have HRr := Lib.hid hr
    clear hw hR1 hgr hr hg
    have c0 : w1.cell? ⟨g, 0, none⟩ = some (.string S) := words_head HW.out HWS.out HS.out
    go_wp2_with fail
    go_ret
    exact ⟨rfl, HG.out⟩
set_option maxRecDepth 100000 in
set_option maxHeartbeats 2000000 in
theorem ans_NUMBERS (W : World) (br k : Nat) (s : ByteArray) (ws : List (List UInt8)) (h r : List UInt8) (t : List (List UInt8)) (S : ByteArray) (w : World) (hR : Rd W br s k w) (hL : RqF.lineR (s.data.toList.drop k) = some (ws, r)) (hws : ws = h :: t) (hS : S = ⟨h.toArray⟩)
    (e0 : (S.toList == [79, 75]) = false) (e1 : (S.toList == [78, 79, 78, 69]) = false) (e2 : (S.toList == [89, 69, 83]) = false) (e3 : (S.toList == [78, 79]) = false) (e4 : (S.toList == [69, 82, 82]) = false) (e5 : (S.toList == [86, 65, 76, 85, 69]) = false) (e6 : (S.toList == [80, 65, 73, 82, 83]) = false) (e7 : (S.toList == [83, 67, 79, 82, 69, 68]) = false) (e8 : (S.toList == [83, 67, 79, 82, 69]) = false) (e9 : (S.toList == [78, 85, 77, 66, 69, 82]) = false) (e10 : (S.toList == [78, 85, 77, 66, 69, 82, 83]) = true) :
    Calls Tryz.prog 22 #[.pointer (some ⟨br, 0, none⟩)] w (ReadRet W br s (RqF.bodyR ws r) w) := by
  have hs := hR.small
  have HR := Lib.hid hR; clear hR
  obtain ⟨hz1, hz2⟩ := line_sizes hL
  have hp : 0 < ws.length := by rw [hws]; exact Nat.succ_pos _
  have hh := head_lit hS e10
  have HS := Lib.hid hS; have HWS := Lib.hid hws; have HL := Lib.hid hL; have HH := Lib.hid hh
  cases t with
  | nil =>
    subst hws
    have HB : Hid (RqF.bodyR [h] r = none) := by
      show _ = _
      rw [HH.out]
      rfl
    rw [HB.out]
    show Calls _ _ _ _ (ReadNo W br w)
    clear hz1 hz2 hS hL hh
    go_enter Tryz.func22, Tryz.ntmps22
    go_wp2_with fail
    refine (line_at W br k s _ _ _ HR.out HL.out).mono ?_
    rintro e w1 ⟨g, j, hg, rfl, hw, hr, hR1, hgr⟩
    have HW := Lib.hid hw; have HR1 := Lib.hid hR1; have HG := Lib.hid hgr; have HRr := Lib.hid hr
    clear hw hR1 hgr hr hg
    have c0 : w1.cell? ⟨g, 0, none⟩ = some (.string S) := words_head HW.out rfl HS.out
    go_wp2_with fail
    refine (numbers_nil _ _ _).mono ?_
    rintro e w2 ⟨rfl, rfl⟩
    go_wp2_with fail
    go_ret
    exact ⟨rfl, HG.out⟩
  | cons x q =>
    subst hws
    cases hv : RqF.numbersR (x :: q) with
    | false =>
      have HB : Hid (RqF.bodyR (h :: x :: q) r = none) := by
        show _ = _
        rw [HH.out]
        show (if RqF.numbersR (x :: q) = true then some r else none) = _
        rw [hv]; rfl
      rw [HB.out]
      show Calls _ _ _ _ (ReadNo W br w)
      have HV := Lib.hid hv; have HZ := Lib.hid hz2; have HZ1 := Lib.hid hz1
      have HY : Hid (q.length + 2 ≤ 4294967296) := by show _ ≤ _; simp only [List.length_cons] at hz1; omega
      clear hv hh hz1 hz2 hS hL
      go_enter Tryz.func22, Tryz.ntmps22
      go_wp2_with fail
      refine (line_at W br k s _ _ _ HR.out HL.out).mono ?_
      rintro e w1 ⟨g, j, hg, rfl, hw, hr, hR1, hgr⟩
      have HW := Lib.hid hw; have HR1 := Lib.hid hR1; have HG := Lib.hid hgr; have HRr := Lib.hid hr
      clear hw hR1 hgr hr hg
      have c0 : w1.cell? ⟨g, 0, none⟩ = some (.string S) := words_head HW.out rfl HS.out
      go_wp2_with fail
      refine (numbers_any g h x q _ HR1.out.tabsM HW.out HY.out (fun y hy => by have := HZ.out y (List.mem_cons_of_mem _ hy); omega)).mono ?_
      rw [HV.out]
      rintro e w2 ⟨rfl, hb2⟩
      have HB2 := Lib.hid hb2; clear hb2
      go_wp2_with fail
      go_ret
      exact ⟨rfl, HG.out.trans (grown_of_below HB2.out _)⟩
    | true =>
      have HB : Hid (RqF.bodyR (h :: x :: q) r = some r) := by
        show _ = _
        rw [HH.out]
        show (if RqF.numbersR (x :: q) = true then some r else none) = _
        rw [hv]; rfl
      rw [HB.out]
      show Calls _ _ _ _ (ReadYes W br s r w)
      have HV := Lib.hid hv; have HZ := Lib.hid hz2; have HZ1 := Lib.hid hz1
      have HY : Hid (q.length + 2 ≤ 4294967296) := by show _ ≤ _; simp only [List.length_cons] at hz1; omega
      clear hv hh hz1 hz2 hS hL
      go_enter Tryz.func22, Tryz.ntmps22
      go_wp2_with fail
      refine (line_at W br k s _ _ _ HR.out HL.out).mono ?_
      rintro e w1 ⟨g, j, hg, rfl, hw, hr, hR1, hgr⟩
      have HW := Lib.hid hw; have HR1 := Lib.hid hR1; have HG := Lib.hid hgr; have HRr := Lib.hid hr
      clear hw hR1 hgr hr hg
      have c0 : w1.cell? ⟨g, 0, none⟩ = some (.string S) := words_head HW.out rfl HS.out
      go_wp2_with fail
      refine (numbers_any g h x q _ HR1.out.tabsM HW.out HY.out (fun y hy => by have := HZ.out y (List.mem_cons_of_mem _ hy); omega)).mono ?_
      rw [HV.out]
      rintro e w2 ⟨rfl, hb2⟩
      have HB2 := Lib.hid hb2; clear hb2
      go_wp2_with fail
      go_ret
      exact ⟨rfl, ⟨j, HRr.out, HR1.out.next HB2.out⟩, HG.out.trans (grown_of_below HB2.out _)⟩
set_option maxRecDepth 100000 in
set_option maxHeartbeats 2000000 in
theorem ans_SPREAD (W : World) (br k : Nat) (s : ByteArray) (ws : List (List UInt8)) (h r : List UInt8) (t : List (List UInt8)) (S : ByteArray) (w : World) (hR : Rd W br s k w) (hL : RqF.lineR (s.data.toList.drop k) = some (ws, r)) (hws : ws = h :: t) (hS : S = ⟨h.toArray⟩)
    (e0 : (S.toList == [79, 75]) = false) (e1 : (S.toList == [78, 79, 78, 69]) = false) (e2 : (S.toList == [89, 69, 83]) = false) (e3 : (S.toList == [78, 79]) = false) (e4 : (S.toList == [69, 82, 82]) = false) (e5 : (S.toList == [86, 65, 76, 85, 69]) = false) (e6 : (S.toList == [80, 65, 73, 82, 83]) = false) (e7 : (S.toList == [83, 67, 79, 82, 69, 68]) = false) (e8 : (S.toList == [83, 67, 79, 82, 69]) = false) (e9 : (S.toList == [78, 85, 77, 66, 69, 82]) = false) (e10 : (S.toList == [78, 85, 77, 66, 69, 82, 83]) = false) (e11 : (S.toList == [83, 80, 82, 69, 65, 68]) = true) :
    Calls Tryz.prog 22 #[.pointer (some ⟨br, 0, none⟩)] w (ReadRet W br s (RqF.bodyR ws r) w) := by
  have hs := hR.small
  have HR := Lib.hid hR; clear hR
  obtain ⟨hz1, hz2⟩ := line_sizes hL
  have hp : 0 < ws.length := by rw [hws]; exact Nat.succ_pos _
  have hh := head_lit hS e11
  have HS := Lib.hid hS; have HWS := Lib.hid hws; have HL := Lib.hid hL; have HH := Lib.hid hh
  by_cases hn : ws.length = 6
  · obtain ⟨y, a, b, c, d, rfl⟩ : ∃ y a b c d, t = [y, a, b, c, d] := by
      rw [hws] at hn
      match t, hn with
      | [y, a, b, c, d], _ => exact ⟨y, a, b, c, d, rfl⟩
    subst hws
    have hz_y := hz2 y (by simp)
    have hz_a := hz2 a (by simp)
    have hz_b := hz2 b (by simp)
    have hz_c := hz2 c (by simp)
    have hz_d := hz2 d (by simp)
    clear hz1 hz2 hS hL hn hp
    have HN : Hid (RqF.bodyR [h, y, a, b, c, d] r = if (RqF.numP y).isSome = true ∧ RqF.isScore a = true ∧ RqF.isScore b = true ∧ RqF.isScore c = true ∧ RqF.isScore d = true then some r else none) := by show _ = _; rw [HH.out]; rfl
    clear hh
    cases hv0 : isNum y with
    | false =>
      have HV0 := Lib.hid hv0; clear hv0
      have HB : Hid (RqF.bodyR [h, y, a, b, c, d] r = none) := by
        show _ = _
        rw [HN.out, if_neg (fun h => absurd (HV0.out.symm.trans (show _ = true from h.1)) (by decide))]
      rw [HB.out]
      show Calls _ _ _ _ (ReadNo W br w)
      go_enter Tryz.func22, Tryz.ntmps22
      go_wp2_with fail
      refine (line_at W br k s _ _ _ HR.out HL.out).mono ?_
      rintro e w1 ⟨g, j, hg, rfl, hw, hr, hR1, hgr⟩
      have HW := Lib.hid hw; have HR1 := Lib.hid hR1; have HG := Lib.hid hgr; have HRr := Lib.hid hr
      clear hw hR1 hgr hr hg
      have c0 : w1.cell? ⟨g, 0, none⟩ = some (.string S) := words_head HW.out rfl HS.out
      have c1 : w1.cell? ⟨g, 1, none⟩ = some (.string ⟨y.toArray⟩) := words_cell HW.out 1 (by simp)
      have c2 : w1.cell? ⟨g, 2, none⟩ = some (.string ⟨a.toArray⟩) := words_cell HW.out 2 (by simp)
      have c3 : w1.cell? ⟨g, 3, none⟩ = some (.string ⟨b.toArray⟩) := words_cell HW.out 3 (by simp)
      have c4 : w1.cell? ⟨g, 4, none⟩ = some (.string ⟨c.toArray⟩) := words_cell HW.out 4 (by simp)
      have c5 : w1.cell? ⟨g, 5, none⟩ = some (.string ⟨d.toArray⟩) := words_cell HW.out 5 (by simp)
      go_wp2_with fail
      refine (number_is y _ (by omega) HR1.out.tabsM.toTabsP).mono ?_
      rw [HV0.out]
      rintro e w2 ⟨n, rfl, hb2⟩
      have HB2 := Lib.hid hb2; clear hb2
      have d2 := cell_later HB2.out c2
      have d3 := cell_later HB2.out c3
      have d4 := cell_later HB2.out c4
      have d5 := cell_later HB2.out c5
      go_wp2_with fail
      go_ret
      exact ⟨rfl, HG.out.trans (grown_of_below HB2.out _)⟩
    | true =>
      have HV0 := Lib.hid hv0; clear hv0
      cases hv1 : RqF.isScore a with
      | false =>
        have HV1 := Lib.hid hv1; clear hv1
        have HB : Hid (RqF.bodyR [h, y, a, b, c, d] r = none) := by
          show _ = _
          rw [HN.out, if_neg (fun h => absurd (HV1.out.symm.trans (show _ = true from h.2.1)) (by decide))]
        rw [HB.out]
        show Calls _ _ _ _ (ReadNo W br w)
        go_enter Tryz.func22, Tryz.ntmps22
        go_wp2_with fail
        refine (line_at W br k s _ _ _ HR.out HL.out).mono ?_
        rintro e w1 ⟨g, j, hg, rfl, hw, hr, hR1, hgr⟩
        have HW := Lib.hid hw; have HR1 := Lib.hid hR1; have HG := Lib.hid hgr; have HRr := Lib.hid hr
        clear hw hR1 hgr hr hg
        have c0 : w1.cell? ⟨g, 0, none⟩ = some (.string S) := words_head HW.out rfl HS.out
        have c1 : w1.cell? ⟨g, 1, none⟩ = some (.string ⟨y.toArray⟩) := words_cell HW.out 1 (by simp)
        have c2 : w1.cell? ⟨g, 2, none⟩ = some (.string ⟨a.toArray⟩) := words_cell HW.out 2 (by simp)
        have c3 : w1.cell? ⟨g, 3, none⟩ = some (.string ⟨b.toArray⟩) := words_cell HW.out 3 (by simp)
        have c4 : w1.cell? ⟨g, 4, none⟩ = some (.string ⟨c.toArray⟩) := words_cell HW.out 4 (by simp)
        have c5 : w1.cell? ⟨g, 5, none⟩ = some (.string ⟨d.toArray⟩) := words_cell HW.out 5 (by simp)
        go_wp2_with fail
        refine (number_is y _ (by omega) HR1.out.tabsM.toTabsP).mono ?_
        rw [HV0.out]
        rintro e w2 ⟨n, rfl, hb2⟩
        have HB2 := Lib.hid hb2; clear hb2
        have d2 := cell_later HB2.out c2
        have d3 := cell_later HB2.out c3
        have d4 := cell_later HB2.out c4
        have d5 := cell_later HB2.out c5
        go_wp2_with fail
        refine (score_is a false _ (by omega) (HR1.out.tabsM.below HB2.out).toTabsP HV1.out).mono ?_
        rintro e w3 ⟨rfl, hb3⟩
        have HB3 := Lib.hid (below_trans HB2.out hb3); clear hb3
        have d3' := cell_later HB3.out c3
        have d4' := cell_later HB3.out c4
        have d5' := cell_later HB3.out c5
        go_wp2_with fail
        go_ret
        exact ⟨rfl, HG.out.trans (grown_of_below HB3.out _)⟩
      | true =>
        have HV1 := Lib.hid hv1; clear hv1
        cases hv2 : RqF.isScore b with
        | false =>
          have HV2 := Lib.hid hv2; clear hv2
          have HB : Hid (RqF.bodyR [h, y, a, b, c, d] r = none) := by
            show _ = _
            rw [HN.out, if_neg (fun h => absurd (HV2.out.symm.trans (show _ = true from h.2.2.1)) (by decide))]
          rw [HB.out]
          show Calls _ _ _ _ (ReadNo W br w)
          go_enter Tryz.func22, Tryz.ntmps22
          go_wp2_with fail
          refine (line_at W br k s _ _ _ HR.out HL.out).mono ?_
          rintro e w1 ⟨g, j, hg, rfl, hw, hr, hR1, hgr⟩
          have HW := Lib.hid hw; have HR1 := Lib.hid hR1; have HG := Lib.hid hgr; have HRr := Lib.hid hr
          clear hw hR1 hgr hr hg
          have c0 : w1.cell? ⟨g, 0, none⟩ = some (.string S) := words_head HW.out rfl HS.out
          have c1 : w1.cell? ⟨g, 1, none⟩ = some (.string ⟨y.toArray⟩) := words_cell HW.out 1 (by simp)
          have c2 : w1.cell? ⟨g, 2, none⟩ = some (.string ⟨a.toArray⟩) := words_cell HW.out 2 (by simp)
          have c3 : w1.cell? ⟨g, 3, none⟩ = some (.string ⟨b.toArray⟩) := words_cell HW.out 3 (by simp)
          have c4 : w1.cell? ⟨g, 4, none⟩ = some (.string ⟨c.toArray⟩) := words_cell HW.out 4 (by simp)
          have c5 : w1.cell? ⟨g, 5, none⟩ = some (.string ⟨d.toArray⟩) := words_cell HW.out 5 (by simp)
          go_wp2_with fail
          refine (number_is y _ (by omega) HR1.out.tabsM.toTabsP).mono ?_
          rw [HV0.out]
          rintro e w2 ⟨n, rfl, hb2⟩
          have HB2 := Lib.hid hb2; clear hb2
          have d2 := cell_later HB2.out c2
          have d3 := cell_later HB2.out c3
          have d4 := cell_later HB2.out c4
          have d5 := cell_later HB2.out c5
          go_wp2_with fail
          refine (score_is a true _ (by omega) (HR1.out.tabsM.below HB2.out).toTabsP HV1.out).mono ?_
          rintro e w3 ⟨rfl, hb3⟩
          have HB3 := Lib.hid (below_trans HB2.out hb3); clear hb3
          have d3' := cell_later HB3.out c3
          have d4' := cell_later HB3.out c4
          have d5' := cell_later HB3.out c5
          go_wp2_with fail
          refine (score_is b false _ (by omega) (HR1.out.tabsM.below HB3.out).toTabsP HV2.out).mono ?_
          rintro e w4 ⟨rfl, hb4⟩
          have HB4 := Lib.hid (below_trans HB3.out hb4); clear hb4
          have d4'' := cell_later HB4.out c4
          have d5'' := cell_later HB4.out c5
          go_wp2_with fail
          go_ret
          exact ⟨rfl, HG.out.trans (grown_of_below HB4.out _)⟩
        | true =>
          have HV2 := Lib.hid hv2; clear hv2
          cases hv3 : RqF.isScore c with
          | false =>
            have HV3 := Lib.hid hv3; clear hv3
            have HB : Hid (RqF.bodyR [h, y, a, b, c, d] r = none) := by
              show _ = _
              rw [HN.out, if_neg (fun h => absurd (HV3.out.symm.trans (show _ = true from h.2.2.2.1)) (by decide))]
            rw [HB.out]
            show Calls _ _ _ _ (ReadNo W br w)
            go_enter Tryz.func22, Tryz.ntmps22
            go_wp2_with fail
            refine (line_at W br k s _ _ _ HR.out HL.out).mono ?_
            rintro e w1 ⟨g, j, hg, rfl, hw, hr, hR1, hgr⟩
            have HW := Lib.hid hw; have HR1 := Lib.hid hR1; have HG := Lib.hid hgr; have HRr := Lib.hid hr
            clear hw hR1 hgr hr hg
            have c0 : w1.cell? ⟨g, 0, none⟩ = some (.string S) := words_head HW.out rfl HS.out
            have c1 : w1.cell? ⟨g, 1, none⟩ = some (.string ⟨y.toArray⟩) := words_cell HW.out 1 (by simp)
            have c2 : w1.cell? ⟨g, 2, none⟩ = some (.string ⟨a.toArray⟩) := words_cell HW.out 2 (by simp)
            have c3 : w1.cell? ⟨g, 3, none⟩ = some (.string ⟨b.toArray⟩) := words_cell HW.out 3 (by simp)
            have c4 : w1.cell? ⟨g, 4, none⟩ = some (.string ⟨c.toArray⟩) := words_cell HW.out 4 (by simp)
            have c5 : w1.cell? ⟨g, 5, none⟩ = some (.string ⟨d.toArray⟩) := words_cell HW.out 5 (by simp)
            go_wp2_with fail
            refine (number_is y _ (by omega) HR1.out.tabsM.toTabsP).mono ?_
            rw [HV0.out]
            rintro e w2 ⟨n, rfl, hb2⟩
            have HB2 := Lib.hid hb2; clear hb2
            have d2 := cell_later HB2.out c2
            have d3 := cell_later HB2.out c3
            have d4 := cell_later HB2.out c4
            have d5 := cell_later HB2.out c5
            go_wp2_with fail
            refine (score_is a true _ (by omega) (HR1.out.tabsM.below HB2.out).toTabsP HV1.out).mono ?_
            rintro e w3 ⟨rfl, hb3⟩
            have HB3 := Lib.hid (below_trans HB2.out hb3); clear hb3
            have d3' := cell_later HB3.out c3
            have d4' := cell_later HB3.out c4
            have d5' := cell_later HB3.out c5
            go_wp2_with fail
            refine (score_is b true _ (by omega) (HR1.out.tabsM.below HB3.out).toTabsP HV2.out).mono ?_
            rintro e w4 ⟨rfl, hb4⟩
            have HB4 := Lib.hid (below_trans HB3.out hb4); clear hb4
            have d4'' := cell_later HB4.out c4
            have d5'' := cell_later HB4.out c5
            go_wp2_with fail
            refine (score_is c false _ (by omega) (HR1.out.tabsM.below HB4.out).toTabsP HV3.out).mono ?_
            rintro e w5 ⟨rfl, hb5⟩
            have HB5 := Lib.hid (below_trans HB4.out hb5); clear hb5
            have d5''' := cell_later HB5.out c5
            go_wp2_with fail
            go_ret
            exact ⟨rfl, HG.out.trans (grown_of_below HB5.out _)⟩
          | true =>
            have HV3 := Lib.hid hv3; clear hv3
            cases hv4 : RqF.isScore d with
            | false =>
              have HV4 := Lib.hid hv4; clear hv4
              have HB : Hid (RqF.bodyR [h, y, a, b, c, d] r = none) := by
                show _ = _
                rw [HN.out, if_neg (fun h => absurd (HV4.out.symm.trans (show _ = true from h.2.2.2.2)) (by decide))]
              rw [HB.out]
              show Calls _ _ _ _ (ReadNo W br w)
              go_enter Tryz.func22, Tryz.ntmps22
              go_wp2_with fail
              refine (line_at W br k s _ _ _ HR.out HL.out).mono ?_
              rintro e w1 ⟨g, j, hg, rfl, hw, hr, hR1, hgr⟩
              have HW := Lib.hid hw; have HR1 := Lib.hid hR1; have HG := Lib.hid hgr; have HRr := Lib.hid hr
              clear hw hR1 hgr hr hg
              have c0 : w1.cell? ⟨g, 0, none⟩ = some (.string S) := words_head HW.out rfl HS.out
              have c1 : w1.cell? ⟨g, 1, none⟩ = some (.string ⟨y.toArray⟩) := words_cell HW.out 1 (by simp)
              have c2 : w1.cell? ⟨g, 2, none⟩ = some (.string ⟨a.toArray⟩) := words_cell HW.out 2 (by simp)
              have c3 : w1.cell? ⟨g, 3, none⟩ = some (.string ⟨b.toArray⟩) := words_cell HW.out 3 (by simp)
              have c4 : w1.cell? ⟨g, 4, none⟩ = some (.string ⟨c.toArray⟩) := words_cell HW.out 4 (by simp)
              have c5 : w1.cell? ⟨g, 5, none⟩ = some (.string ⟨d.toArray⟩) := words_cell HW.out 5 (by simp)
              go_wp2_with fail
              refine (number_is y _ (by omega) HR1.out.tabsM.toTabsP).mono ?_
              rw [HV0.out]
              rintro e w2 ⟨n, rfl, hb2⟩
              have HB2 := Lib.hid hb2; clear hb2
              have d2 := cell_later HB2.out c2
              have d3 := cell_later HB2.out c3
              have d4 := cell_later HB2.out c4
              have d5 := cell_later HB2.out c5
              go_wp2_with fail
              refine (score_is a true _ (by omega) (HR1.out.tabsM.below HB2.out).toTabsP HV1.out).mono ?_
              rintro e w3 ⟨rfl, hb3⟩
              have HB3 := Lib.hid (below_trans HB2.out hb3); clear hb3
              have d3' := cell_later HB3.out c3
              have d4' := cell_later HB3.out c4
              have d5' := cell_later HB3.out c5
              go_wp2_with fail
              refine (score_is b true _ (by omega) (HR1.out.tabsM.below HB3.out).toTabsP HV2.out).mono ?_
              rintro e w4 ⟨rfl, hb4⟩
              have HB4 := Lib.hid (below_trans HB3.out hb4); clear hb4
              have d4'' := cell_later HB4.out c4
              have d5'' := cell_later HB4.out c5
              go_wp2_with fail
              refine (score_is c true _ (by omega) (HR1.out.tabsM.below HB4.out).toTabsP HV3.out).mono ?_
              rintro e w5 ⟨rfl, hb5⟩
              have HB5 := Lib.hid (below_trans HB4.out hb5); clear hb5
              have d5''' := cell_later HB5.out c5
              go_wp2_with fail
              refine (score_is d false _ (by omega) (HR1.out.tabsM.below HB5.out).toTabsP HV4.out).mono ?_
              rintro e w6 ⟨rfl, hb6⟩
              have HB6 := Lib.hid (below_trans HB5.out hb6); clear hb6
              go_wp2_with fail
              go_ret
              exact ⟨rfl, HG.out.trans (grown_of_below HB6.out _)⟩
            | true =>
              have HV4 := Lib.hid hv4; clear hv4
              have HB : Hid (RqF.bodyR [h, y, a, b, c, d] r = some r) := by
                show _ = _
                rw [HN.out, if_pos ⟨HV0.out, HV1.out, HV2.out, HV3.out, HV4.out⟩]
              rw [HB.out]
              show Calls _ _ _ _ (ReadYes W br s r w)
              go_enter Tryz.func22, Tryz.ntmps22
              go_wp2_with fail
              refine (line_at W br k s _ _ _ HR.out HL.out).mono ?_
              rintro e w1 ⟨g, j, hg, rfl, hw, hr, hR1, hgr⟩
              have HW := Lib.hid hw; have HR1 := Lib.hid hR1; have HG := Lib.hid hgr; have HRr := Lib.hid hr
              clear hw hR1 hgr hr hg
              have c0 : w1.cell? ⟨g, 0, none⟩ = some (.string S) := words_head HW.out rfl HS.out
              have c1 : w1.cell? ⟨g, 1, none⟩ = some (.string ⟨y.toArray⟩) := words_cell HW.out 1 (by simp)
              have c2 : w1.cell? ⟨g, 2, none⟩ = some (.string ⟨a.toArray⟩) := words_cell HW.out 2 (by simp)
              have c3 : w1.cell? ⟨g, 3, none⟩ = some (.string ⟨b.toArray⟩) := words_cell HW.out 3 (by simp)
              have c4 : w1.cell? ⟨g, 4, none⟩ = some (.string ⟨c.toArray⟩) := words_cell HW.out 4 (by simp)
              have c5 : w1.cell? ⟨g, 5, none⟩ = some (.string ⟨d.toArray⟩) := words_cell HW.out 5 (by simp)
              go_wp2_with fail
              refine (number_is y _ (by omega) HR1.out.tabsM.toTabsP).mono ?_
              rw [HV0.out]
              rintro e w2 ⟨n, rfl, hb2⟩
              have HB2 := Lib.hid hb2; clear hb2
              have d2 := cell_later HB2.out c2
              have d3 := cell_later HB2.out c3
              have d4 := cell_later HB2.out c4
              have d5 := cell_later HB2.out c5
              go_wp2_with fail
              refine (score_is a true _ (by omega) (HR1.out.tabsM.below HB2.out).toTabsP HV1.out).mono ?_
              rintro e w3 ⟨rfl, hb3⟩
              have HB3 := Lib.hid (below_trans HB2.out hb3); clear hb3
              have d3' := cell_later HB3.out c3
              have d4' := cell_later HB3.out c4
              have d5' := cell_later HB3.out c5
              go_wp2_with fail
              refine (score_is b true _ (by omega) (HR1.out.tabsM.below HB3.out).toTabsP HV2.out).mono ?_
              rintro e w4 ⟨rfl, hb4⟩
              have HB4 := Lib.hid (below_trans HB3.out hb4); clear hb4
              have d4'' := cell_later HB4.out c4
              have d5'' := cell_later HB4.out c5
              go_wp2_with fail
              refine (score_is c true _ (by omega) (HR1.out.tabsM.below HB4.out).toTabsP HV3.out).mono ?_
              rintro e w5 ⟨rfl, hb5⟩
              have HB5 := Lib.hid (below_trans HB4.out hb5); clear hb5
              have d5''' := cell_later HB5.out c5
              go_wp2_with fail
              refine (score_is d true _ (by omega) (HR1.out.tabsM.below HB5.out).toTabsP HV4.out).mono ?_
              rintro e w6 ⟨rfl, hb6⟩
              have HB6 := Lib.hid (below_trans HB5.out hb6); clear hb6
              go_wp2_with fail
              go_ret
              exact ⟨rfl, ⟨j, HRr.out, HR1.out.next HB6.out⟩, HG.out.trans (grown_of_below HB6.out _)⟩
  · have hd : (((ws.length : Nat) : Int) == 6) = false := by rw [beq_eq_false_iff_ne]; omega
    have hd2 : (((ws.length : Nat) : Int) != 6) = true := by rw [bne, hd]; rfl
    have HB : Hid (RqF.bodyR ws r = none) := by
      show _ = _
      rw [HWS.out, HH.out]
      rw [HWS.out] at hn
      show (match t with | [a, b, c, d, f] => _ | _ => none) = none
      split
      · exact absurd rfl hn
      · rfl
    rw [HB.out]
    show Calls _ _ _ _ (ReadNo W br w)
    clear hz2 hS hws hL hh
    go_enter Tryz.func22, Tryz.ntmps22
    go_wp2_with fail
    refine (line_at W br k s _ _ _ HR.out HL.out).mono ?_
    rintro e w1 ⟨g, j, hg, rfl, hw, hr, hR1, hgr⟩
    have HW := Lib.hid hw; have HR1 := Lib.hid hR1; have HG := Lib.hid hgr; have HRr := Lib.hid hr
    clear hw hR1 hgr hr hg
    have c0 : w1.cell? ⟨g, 0, none⟩ = some (.string S) := words_head HW.out HWS.out HS.out
    go_wp2_with fail
    go_ret
    exact ⟨rfl, HG.out⟩
set_option maxRecDepth 100000 in
set_option maxHeartbeats 2000000 in
theorem ans_other (W : World) (br k : Nat) (s : ByteArray) (ws : List (List UInt8)) (h r : List UInt8) (t : List (List UInt8)) (S : ByteArray) (w : World) (hR : Rd W br s k w) (hL : RqF.lineR (s.data.toList.drop k) = some (ws, r)) (hws : ws = h :: t) (hS : S = ⟨h.toArray⟩)
    (e0 : (S.toList == [79, 75]) = false) (e1 : (S.toList == [78, 79, 78, 69]) = false) (e2 : (S.toList == [89, 69, 83]) = false) (e3 : (S.toList == [78, 79]) = false) (e4 : (S.toList == [69, 82, 82]) = false) (e5 : (S.toList == [86, 65, 76, 85, 69]) = false) (e6 : (S.toList == [80, 65, 73, 82, 83]) = false) (e7 : (S.toList == [83, 67, 79, 82, 69, 68]) = false) (e8 : (S.toList == [83, 67, 79, 82, 69]) = false) (e9 : (S.toList == [78, 85, 77, 66, 69, 82]) = false) (e10 : (S.toList == [78, 85, 77, 66, 69, 82, 83]) = false) (e11 : (S.toList == [83, 80, 82, 69, 65, 68]) = false) :
    Calls Tryz.prog 22 #[.pointer (some ⟨br, 0, none⟩)] w (ReadRet W br s (RqF.bodyR ws r) w) := by
  have hs := hR.small
  have HR := Lib.hid hR; clear hR
  obtain ⟨hz1, hz2⟩ := line_sizes hL
  have hp : 0 < ws.length := by rw [hws]; exact Nat.succ_pos _
  have hb : RqF.bodyR ws r = none := by
    subst hws
    have n0 := head_not hS e0
    have n1 := head_not hS e1
    have n2 := head_not hS e2
    have n3 := head_not hS e3
    have n4 := head_not hS e4
    have n5 := head_not hS e5
    have n6 := head_not hS e6
    have n7 := head_not hS e7
    have n8 := head_not hS e8
    have n9 := head_not hS e9
    have n10 := head_not hS e10
    have n11 := head_not hS e11
    unfold RqF.bodyR
    simp only [n0, n1, n2, n3, n4, n5, n6, n7, n8, n9, n10, n11, or_self, if_false]
  have HB := Lib.hid hb
  have HS := Lib.hid hS; have HWS := Lib.hid hws; have HL := Lib.hid hL
  clear hb hz1 hz2 hS hws hL
  rw [HB.out]
  show Calls _ _ _ _ (ReadNo W br w)
  go_enter Tryz.func22, Tryz.ntmps22
  go_wp2_with fail
  refine (line_at W br k s _ _ _ HR.out HL.out).mono ?_
  rintro e w1 ⟨g, j, hg, rfl, hw, hr, hR1, hgr⟩
  have HW := Lib.hid hw; have HR1 := Lib.hid hR1; have HG := Lib.hid hgr; have HRr := Lib.hid hr
  clear hw hR1 hgr hr hg
  have c0 : w1.cell? ⟨g, 0, none⟩ = some (.string S) := words_head HW.out HWS.out HS.out
  go_wp2_with fail
  go_ret
  exact ⟨rfl, HG.out⟩

theorem answer_any (W : World) (br k : Nat) (s : ByteArray) (w : World) (hR : Rd W br s k w) :
    Calls Tryz.prog 22 #[.pointer (some ⟨br, 0, none⟩)] w (ReadRet W br s (RqF.answerR (s.data.toList.drop k)) w) := by
  cases h : RqF.lineR (s.data.toList.drop k) with
  | none =>
    have HP : Hid (RqF.answerR (s.data.toList.drop k) = none) := by show _ = _; unfold RqF.answerR; rw [h]
    have HL := Lib.hid h; clear h
    have HR := Lib.hid hR; clear hR
    rw [HP.out]
    show Calls _ _ _ _ (ReadNo W br w)
    go_enter Tryz.func22, Tryz.ntmps22
    go_wp2_with fail
    refine (line_gone W br k s _ HR.out HL.out).mono ?_
    rintro e w1 ⟨rfl, n, rfl⟩
    go_wp2_with fail
    go_ret
    exact ⟨rfl, grown_drewN _ _ _⟩
  | some p =>
    obtain ⟨ws, r⟩ := p
    have e0 : RqF.answerR (s.data.toList.drop k) = RqF.bodyR ws r := by unfold RqF.answerR; rw [h]
    rw [e0]
    have hne : ws ≠ [] := by
      obtain ⟨q, hq, he⟩ := Option.map_eq_some_iff.1 h
      injection he with h1 _
      rw [← h1]; exact RqF.wordsOf_ne _
    obtain ⟨x, t, hws⟩ := List.exists_cons_of_ne_nil hne
    obtain ⟨S, hS⟩ : ∃ S : ByteArray, S = ⟨x.toArray⟩ := ⟨_, rfl⟩
    cases e1 : (S.toList == [79, 75]) with
    | true => exact ans_OK W br k s ws x r t S w hR h hws hS e1
    | false =>
      cases e2 : (S.toList == [78, 79, 78, 69]) with
      | true => exact ans_NONE W br k s ws x r t S w hR h hws hS e1 e2
      | false =>
        cases e3 : (S.toList == [89, 69, 83]) with
        | true => exact ans_YES W br k s ws x r t S w hR h hws hS e1 e2 e3
        | false =>
          cases e4 : (S.toList == [78, 79]) with
          | true => exact ans_NO W br k s ws x r t S w hR h hws hS e1 e2 e3 e4
          | false =>
            cases e5 : (S.toList == [69, 82, 82]) with
            | true => exact ans_ERR W br k s ws x r t S w hR h hws hS e1 e2 e3 e4 e5
            | false =>
              cases e6 : (S.toList == [86, 65, 76, 85, 69]) with
              | true => exact ans_VALUE W br k s ws x r t S w hR h hws hS e1 e2 e3 e4 e5 e6
              | false =>
                cases e7 : (S.toList == [80, 65, 73, 82, 83]) with
                | true => exact ans_PAIRS W br k s ws x r t S w hR h hws hS e1 e2 e3 e4 e5 e6 e7
                | false =>
                  cases e8 : (S.toList == [83, 67, 79, 82, 69, 68]) with
                  | true => exact ans_SCORED W br k s ws x r t S w hR h hws hS e1 e2 e3 e4 e5 e6 e7 e8
                  | false =>
                    cases e9 : (S.toList == [83, 67, 79, 82, 69]) with
                    | true => exact ans_SCORE W br k s ws x r t S w hR h hws hS e1 e2 e3 e4 e5 e6 e7 e8 e9
                    | false =>
                      cases e10 : (S.toList == [78, 85, 77, 66, 69, 82]) with
                      | true => exact ans_NUMBER W br k s ws x r t S w hR h hws hS e1 e2 e3 e4 e5 e6 e7 e8 e9 e10
                      | false =>
                        cases e11 : (S.toList == [78, 85, 77, 66, 69, 82, 83]) with
                        | true => exact ans_NUMBERS W br k s ws x r t S w hR h hws hS e1 e2 e3 e4 e5 e6 e7 e8 e9 e10 e11
                        | false =>
                          cases e12 : (S.toList == [83, 80, 82, 69, 65, 68]) with
                          | true => exact ans_SPREAD W br k s ws x r t S w hR h hws hS e1 e2 e3 e4 e5 e6 e7 e8 e9 e10 e11 e12
                          | false =>
                            exact ans_other W br k s ws x r t S w hR h hws hS e1 e2 e3 e4 e5 e6 e7 e8 e9 e10 e11 e12
end Go.Proofs.YtnjmhneobgmejaaGreatDoor
