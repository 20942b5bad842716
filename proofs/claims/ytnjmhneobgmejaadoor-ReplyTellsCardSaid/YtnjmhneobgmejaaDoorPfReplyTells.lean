/- ReplyTells: the card of the law 'reliquary/reliquarylaw19.ReplyTells': whatever the input, true; the input reads as it did. Conditions: those of the given row (the listed tables are as the program's text lays them). -/
import Derived.Test.YtnjmhneobgmejaaDoorLawRTells
import Derived.Test.YtnjmhneobgmejaaDoorOpenT
import Derived.SizedLaws
import Derived.ChangeMaps5
namespace Go.Proofs.YtnjmhneobgmejaaDoor.replyTells
open Go.ChangeMaps
open Go.ChangeShapes Go.WideShapes Go.ChangeAt Go.RowKit Go.WideElems

set_option maxRecDepth 100000 in
theorem contract (H : Type) (enc : TypeId × Value → H) (W : World) (base : Nat) (args : Array Value) (ds gs : List (DataW H)) (before : List MemPlace)
    (hval : ∀ (j : Nat) t v, Tryd.f3.params[j]? = some t → args[j]? = some v → Value.okWide Tryd.prog W .any base t v)
    (hW : DataW.Whole enc Tryd.prog Tryd.f3.params.toList Rows.replyTellsSpec.vars false W args.toList ds gs before) (hL : laidMetH Tryd.prog Rows.replyTellsRow.laid W) (hsh : W.ShapedOpen Tryd.prog)
    (hsz : (DataW.weightsEach Tryd.prog (Tryd.f3.params.toList ++ (OpenSpec.ofChange Rows.replyTellsSpec).bare.plain.varTypes Tryd.prog) (ds ++ gs)).all (· ≤ reachBytes) = true) :
    Calls Tryd.prog 3 args W fun e W' => ∃ v, e = .returned v ∧ Rows.replyTellsSpec.post enc Tryd.prog Tryd.f3 false true false false W args v W' := by
  have hW' := hW
  obtain ⟨p, q, hA0, hV, rfl, hfz, hnd⟩ := hW
  have hA : DataW.TrodAll enc Tryd.prog W 0 (fun _ => true) true Tryd.f3.params.toList args.toList ds p := hA0
  rw [Tryd.params3] at hA hval
  obtain ⟨v0, vs0, d0, ds0, p0, q0, hargs, rfl, rfl, h0, r0⟩ := trodAll_cons hA
  obtain ⟨v1, vs1, d1, ds1, p1, q1, rfl, rfl, rfl, h1, r1⟩ := trodAll_cons r0
  obtain ⟨v2, vs2, d2, ds2, p2, q2, rfl, rfl, rfl, h2, r2⟩ := trodAll_cons r1
  obtain ⟨v3, vs3, d3, ds3, p3, q3, rfl, rfl, rfl, h3, r3⟩ := trodAll_cons r2
  obtain ⟨v4, vs4, d4, ds4, p4, q4, rfl, rfl, rfl, h4, r4⟩ := trodAll_cons r3
  obtain ⟨v5, vs5, d5, ds5, p5, q5, rfl, rfl, rfl, h5, r5⟩ := trodAll_cons r4
  obtain ⟨v6, vs6, d6, ds6, p6, q6, rfl, rfl, rfl, h6, r6⟩ := trodAll_cons r5
  obtain ⟨rfl, rfl, rfl⟩ := trodAll_nil r6
  obtain rfl : args = #[v0, v1, v2, v3, v4, v5, v6] := by cases args; simp_all
  obtain ⟨rfl, rfl⟩ := trodVars_none hV
  clear hA0
  have k0 := h0
  obtain ⟨x0, rfl, rfl, rfl, wx0⟩ := open_int Tryd.underlying3 (hval 0 3 v0 rfl rfl) h0
  have k1 := h1
  obtain ⟨A1, c1, l1, rfl, u1, n1⟩ := open_bytes (hval 1 22 v1 rfl rfl) h1
  have k2 := h2
  obtain ⟨A2, c2, L2, rfl, u2, n2, z2⟩ := open_pairs (hval 2 23 v2 rfl rfl) h2 (fun n hn => by have := List.all_eq_true.1 hsz n (DataW.weights_mem_each (j := 2) (t := 23) (by rw [Tryd.params3]; rfl) rfl n hn); simpa using this)
  have k3 := h3
  obtain ⟨A3, c3, N3, rfl, u3, n3, g3⟩ := open_texts (hval 3 24 v3 rfl rfl) h3
  have k4 := h4
  obtain ⟨A4, c4, U4, rfl, u4, n4⟩ := open_u64s (hval 4 25 v4 rfl rfl) h4
  have k5 := h5
  obtain ⟨A5, c5, I5, rfl, u5, n5⟩ := open_i64s (hval 5 26 v5 rfl rfl) h5
  have k6 := h6
  obtain ⟨x6, rfl, rfl, rfl⟩ := open_bool Tryd.underlying4 (hval 6 4 v6 rfl rfl) h6
  refine (replyTells_any x0 A1 c1 l1 A2 c2 L2 A3 c3 N3 A4 c4 U4 A5 c5 I5 x6 W (tabs_of_laid hL) u1 u2 u3 u4 u5 z2 n1 n2 n3 g3 n4 n5).mono fun e W' ⟨he, hb⟩ => ?_
  subst he
  exact ⟨_, rfl, post_of_below (pv := []) hW' (fun _ _ _ => trodAll_cons_mk (shut_bool Tryd.underlying4 _) trodAll_mk0) (fun sp hsp => (trodAll_cons_mk (Trod_stays laidOut (by kernel_rfl) (of_decide_eq_true (by kernel_rfl)) k0 (fun x hx => hb.same (hW'.lt x (by first | (simp [hx]; done) | exact absurd hx (by simp)))) (fun x hx => hsp x (by first | (simp [hx]; done) | exact absurd hx (by simp)))) (trodAll_cons_mk (Trod_stays laidOut (by kernel_rfl) (of_decide_eq_true (by kernel_rfl)) k1 (fun x hx => hb.same (hW'.lt x (by first | (simp [hx]; done) | exact absurd hx (by simp)))) (fun x hx => hsp x (by first | (simp [hx]; done) | exact absurd hx (by simp)))) (trodAll_cons_mk (Trod_stays laidOut (by kernel_rfl) (of_decide_eq_true (by kernel_rfl)) k2 (fun x hx => hb.same (hW'.lt x (by first | (simp [hx]; done) | exact absurd hx (by simp)))) (fun x hx => hsp x (by first | (simp [hx]; done) | exact absurd hx (by simp)))) (trodAll_cons_mk (Trod_stays laidOut (by kernel_rfl) (of_decide_eq_true (by kernel_rfl)) k3 (fun x hx => hb.same (hW'.lt x (by first | (simp [hx]; done) | exact absurd hx (by simp)))) (fun x hx => hsp x (by first | (simp [hx]; done) | exact absurd hx (by simp)))) (trodAll_cons_mk (Trod_stays laidOut (by kernel_rfl) (of_decide_eq_true (by kernel_rfl)) k4 (fun x hx => hb.same (hW'.lt x (by first | (simp [hx]; done) | exact absurd hx (by simp)))) (fun x hx => hsp x (by first | (simp [hx]; done) | exact absurd hx (by simp)))) (trodAll_cons_mk (Trod_stays laidOut (by kernel_rfl) (of_decide_eq_true (by kernel_rfl)) k5 (fun x hx => hb.same (hW'.lt x (by first | (simp [hx]; done) | exact absurd hx (by simp)))) (fun x hx => hsp x (by first | (simp [hx]; done) | exact absurd hx (by simp)))) (trodAll_cons_mk (Trod_stays laidOut (by kernel_rfl) (of_decide_eq_true (by kernel_rfl)) k6 (fun x hx => hb.same (hW'.lt x (by first | (simp [hx]; done) | exact absurd hx (by simp)))) (fun x hx => hsp x (by first | (simp [hx]; done) | exact absurd hx (by simp)))) trodAll_mk0)))))))) (fun _ _ => rfl) hb⟩

theorem laid_met (os : Os) : laidMet Tryd.prog Rows.replyTellsRow.laid ((laidWorld os).forCall (fun _ _ => 0) ⟨#[], #[.int .i64 0, .slice none 0 0, .slice none 0 0, .slice none 0 0, .slice none 0 0, .slice none 0 0, .bool false], []⟩).memory :=
  laidMet_of_run' 8 (by kernel_rfl) (by kernel_rfl)
theorem reads (os : Os) {H : Type} (enc : TypeId × Value → H) : ∃ places, DataW.whole enc Tryd.prog ((laidWorld os).forCall (fun _ _ => 0) ⟨#[], #[.int .i64 0, .slice none 0 0, .slice none 0 0, .slice none 0 0, .slice none 0 0, .slice none 0 0, .bool false], []⟩).memory Tryd.f3.params.toList Rows.replyTellsSpec.vars false (#[.int .i64 0, .slice none 0 0, .slice none 0 0, .slice none 0 0, .slice none 0 0, .slice none 0 0, .bool false] : Array Value).toList 8 = some ([.lit (.int .i64 0), .nil, .nil, .nil, .nil, .nil, .lit (.bool false)], [], places) :=
  ⟨[], by kernel_rfl⟩
set_option maxRecDepth 100000 in
theorem lifted (os : Os) (started : os.Started) (H : Type) (enc : TypeId × Value → H) (F : Stop.Interp) :
    ReturnsInHanded {} Tryd.checked os 3 .any ((OpenSpec.ofChange Rows.replyTellsSpec).preRow enc Tryd.prog Tryd.f3 Rows.replyTellsRow.domain false Rows.replyTellsRow.laid) (((OpenSpec.ofChange Rows.replyTellsSpec).at F).post enc Tryd.prog Tryd.f3 false true false false) := by
  obtain ⟨places, hx⟩ := reads os enc
  refine returnsInHanded_of_row (C := Tryd.checked) (s := OpenSpec.ofChange Rows.replyTellsSpec) own started (by kernel_rfl) Tryd.func3
    (witness_row_at (enc := enc) (C := Tryd.checked) false (laidWorld os) #[.int .i64 0, .slice none 0 0, .slice none 0 0, .slice none 0 0, .slice none 0 0, .slice none 0 0, .bool false] rfl (by kernel_rfl) (by kernel_rfl) (by kernel_rfl)
      (OpenSpec.preRow_of_cond 8 hx (by kernel_rfl) (fun k hk => by cases hk) (by kernel_rfl) (laid_met os))) ?_
  intro W base args ds gs before hval hW _ _ hsz hL hsh _
  exact contract H enc W base args ds gs before hval hW hL hsh hsz
theorem said : Rows.ReplyTellsSaid :=
  OpenClaim.holds_of_cond 3 Tryd.f3 rfl rfl rfl rfl rfl rfl rfl ⟨rfl, rfl, rfl, rfl, rfl⟩ rfl rfl rfl rfl rfl (by kernel_rfl) Tryd.func3 (by kernel_rfl)
    (of_decide_eq_true (by kernel_rfl)) (by unfold Func.isWrapper; first | (rw [if_pos (by decide +kernel)]; kernel_rfl) | (rw [if_neg (by decide +kernel)]; exact ⟨rfl, rfl⟩))
    (fun os started H enc _ F => by rw [OpenClaim.pre_eq_preRow]; exact lifted os started H enc F)
theorem plain (f : FuncId) (fn : Func) (hf : Tryd.pinned.checked.prog.funcNamed "reliquary/reliquarylaw19.ReplyTells" = some f) (hfn : Tryd.pinned.checked.prog.funcs[f]? = some fn) :
    false = Tryd.pinned.checked.prog.looks [] ∧ ∀ (j : Nat) t, fn.params[j]? = some t → Tryd.pinned.checked.prog.wantsStandIn t = false := by
  obtain rfl : f = 3 := Option.some.inj ((show Tryd.prog.funcNamed "reliquary/reliquarylaw19.ReplyTells" = some 3 by kernel_rfl).symm.trans hf) |>.symm
  obtain rfl : fn = Tryd.f3 := (Option.some.inj (Tryd.func3.symm.trans hfn)).symm
  refine ⟨by kernel_rfl, fun j t ht => ?_⟩
  rw [Tryd.params3] at ht
  have hm := Array.mem_of_getElem? ht
  simp only [List.mem_toArray, List.mem_cons, List.mem_nil_iff, or_false] at hm
  rcases hm with rfl | rfl | rfl | rfl | rfl | rfl | rfl
  · exact (show Tryd.prog.wantsStandIn 3 = false by kernel_rfl)
  · exact (show Tryd.prog.wantsStandIn 22 = false by kernel_rfl)
  · exact (show Tryd.prog.wantsStandIn 23 = false by kernel_rfl)
  · exact (show Tryd.prog.wantsStandIn 24 = false by kernel_rfl)
  · exact (show Tryd.prog.wantsStandIn 25 = false by kernel_rfl)
  · exact (show Tryd.prog.wantsStandIn 26 = false by kernel_rfl)
  · exact (show Tryd.prog.wantsStandIn 4 = false by kernel_rfl)
/-- The card. -/
theorem card : Rows.ReplyTellsCardSaid :=
  Claim7.holds_tied_plain_at .later [] _ _ _ _ said (fun _ h => by cases h) (by kernel_rfl) (fun _ h => by cases h) replyTells_row_tie rfl ⟨rfl, rfl⟩ (by kernel_rfl) rfl plain (by kernel_rfl)
end Go.Proofs.YtnjmhneobgmejaaDoor.replyTells
