/- The law LockProves: the given row, and its tied card. (Printed by gen_card.py) -/
import Derived.Test.YtcpeljfjgbjnjaaDoorSLop
import Derived.Test.YtcpeljfjgbjnjaaDoorSRow
import Derived.Test.YtcpeljfjgbjnjaaDoorTie
import Derived.Test.YtcpeljfjgbjnjaaDoorCards
set_option linter.unusedSimpArgs false
set_option linter.unusedVariables false
namespace Go.Proofs.YtcpeljfjgbjnjaaDoor
open Go Go.Vi Go.ChangeShapes Go.WideShapes Go.RowKit Go.ChangeMaps
set_option maxRecDepth 100000 in
theorem lockProves_lifted (os : Os) (started : os.Started) (H : Type) (enc : TypeId × Value → H) :
    ReturnsInHanded {} Tryd.checked os 6 .any (fun w args => (Rows.lockProvesSpec.pre enc Tryd.prog Tryd.f6 [] false w args ∧ laidMetH Tryd.prog laidL w) ∧ sizedMet enc Tryd.prog Tryd.f6 (OpenSpec.ofChange Rows.lockProvesSpec) false w args)
      (Rows.lockProvesSpec.post enc Tryd.prog Tryd.f6 false true false false) := by
  refine returnsInHanded_of_change_and (C := Tryd.checked) (X := fun w _ => laidMetH Tryd.prog laidL w) (fun _ _ _ hh h => h.of_heap hh) own_none started (by kernel_rfl) Tryd.func6
    (ChangeSpec.witness_at (enc := enc) (C := Tryd.checked) (os := os) (X := fun w _ => laidMetH Tryd.prog laidL w) false (World.laidAll Tryd.prog os laidL) #[.string .empty, .string .empty, .string .empty, .int .i64 0, .int .u8 0] 8 (World.laidAll_os _ _ _) (by kernel_rfl) (by kernel_rfl) (by kernel_rfl) (by kernel_rfl) (by kernel_rfl)
      (by rw [MakeChecks.laidMetH_plain _ _ _ (by kernel_rfl)]; exact laidMet_laidAll _ (by kernel_rfl) (by kernel_rfl))) ?_
  intro W base args ds gs before hval0 hW _ _ hL _
  have hval : ∀ (j : Nat) t v, Tryd.f6.params[j]? = some t → args[j]? = some v → Value.okWide Tryd.prog W .any base t v := hval0
  have hW' := hW
  obtain ⟨p, q, hA0, hV0, rfl, hfz, hnd⟩ := hW
  have hA : DataW.TrodAll enc Tryd.prog W 0 (fun _ => true) true Tryd.f6.params.toList args.toList ds p := hA0
  have hV : DataW.TrodVars enc Tryd.prog W (fun _ => true) [] gs q := hV0
  rw [Tryd.params6] at hA hval
  obtain ⟨args⟩ := args
  obtain ⟨v0, w0, d0, e0, p0, q0, hv0, hd0, hp0, ht0, hr0⟩ := trodAll_cons hA
  obtain ⟨v1, w1, d1, e1, p1, q1, hv1, hd1, hp1, ht1, hr1⟩ := trodAll_cons hr0
  obtain ⟨v2, w2, d2, e2, p2, q2, hv2, hd2, hp2, ht2, hr2⟩ := trodAll_cons hr1
  obtain ⟨v3, w3, d3, e3, p3, q3, hv3, hd3, hp3, ht3, hr3⟩ := trodAll_cons hr2
  obtain ⟨v4, w4, d4, e4, p4, q4, hv4, hd4, hp4, ht4, hr4⟩ := trodAll_cons hr3
  obtain ⟨hv5, hd5, hp5⟩ := trodAll_nil hr4
  have hargs : args = [v0, v1, v2, v3, v4] := by simp_all
  have hds : ds = [d0, d1, d2, d3, d4] := by simp_all
  subst hargs hds
  obtain ⟨x0, rfl, rfl, z0, wx0⟩ := open_string Tryd.underlying9 (hval 0 9 v0 rfl rfl) ht0
  obtain ⟨x1, rfl, rfl, z1, wx1⟩ := open_string Tryd.underlying9 (hval 1 9 v1 rfl rfl) ht1
  obtain ⟨x2, rfl, rfl, z2, wx2⟩ := open_string Tryd.underlying9 (hval 2 9 v2 rfl rfl) ht2
  obtain ⟨x3, rfl, rfl, z3, wx3⟩ := open_int Tryd.underlying3 (hval 3 3 v3 rfl rfl) ht3
  obtain ⟨x4, rfl, rfl, z4, wx4⟩ := open_int Tryd.underlying5 (hval 4 5 v4 rfl rfl) ht4
  obtain ⟨rfl, rfl⟩ : gs = [] ∧ q = [] := by
    cases gs with
    | nil => exact ⟨rfl, hV⟩
    | cons g r => exact absurd hV (by intro h; cases h)
  have ha : RepL (X0 noPh) W [.str x0, .str x1, .str x2, .int .i64 x3, .int .u8 x4] (.vals [Value.string x0, Value.string x1, Value.string x2, Value.int .i64 x3, Value.int .u8 x4]) := by
    simp only [RepL, Rep, holds]
    exact ⟨_, _, rfl, rfl, _, _, rfl, rfl, _, _, rfl, rfl, _, _, rfl, rfl, _, _, rfl, rfl, rfl⟩
  have e1 : Rows.lockProvesSpec.fn H ([.lit (.string x0.data.toList), .lit (.string x1.data.toList), .lit (.string x2.data.toList), .lit (.int .i64 x3), .lit (.int .u8 x4)] ++ []) = { results := [.lit (.bool true)], args := [.lit (.string x0.data.toList), .lit (.string x1.data.toList), .lit (.string x2.data.toList), .lit (.int .i64 x3), .lit (.int .u8 x4)] } := by simp [Rows.lockProvesSpec]
  refine (calls_of_pc Tryd.func6 (by kernel_rfl) (proves_c x0 x1 x2 x3 x4) hL ha).mono fun e W' ⟨v, he, hb, hr⟩ => ?_
  subst he
  have hr : v = .bool true := by
    unfold pack Rep holds at hr
    exact hr
  subst hr
  refine ⟨_, rfl, _, _, _, [], [], [], hW', ?_, ?_, ?_, hb.frame _, fun h => by cases h⟩
  · rw [e1]; exact trodAll_mk1 (shut_bool Tryd.underlying4 true)
  · rw [e1]
    exact ⟨_, _, shut_string Tryd.underlying9 wx0, ⟨_, _, shut_string Tryd.underlying9 wx1, ⟨_, _, shut_string Tryd.underlying9 wx2, ⟨_, _, shut_int Tryd.underlying3 wx3, ⟨_, _, shut_int Tryd.underlying5 wx4, trodAll_mk0, rfl⟩, rfl⟩, rfl⟩, rfl⟩, rfl⟩
  · rw [e1]; rfl
theorem lockProves_holds : Rows.LockProvesSaid :=
  OpenClaim.holds_of_wide 6 Tryd.f6 rfl rfl rfl rfl rfl rfl rfl ⟨rfl, rfl, rfl, rfl, rfl⟩ rfl rfl rfl rfl rfl (by kernel_rfl) Tryd.func6 (by kernel_rfl)
    (of_decide_eq_true (by kernel_rfl)) (by unfold Func.isWrapper; first | (rw [if_pos (by decide +kernel)]; kernel_rfl) | (rw [if_neg (by decide +kernel)]; exact ⟨rfl, rfl⟩))
    (fun os started H enc _ => lockProves_lifted os started H enc)
theorem lockProves_card : Rows.LockProvesCardSaid :=
  Claim7.holds_tied_plain_at .later [] [.data] true (true, "2bb4e4a36434d290a5198761108b44e65f6377479e3bff053f9cc90d130372c4") false lockProves_holds (fun _ h => by cases h) (by kernel_rfl) (fun _ h => by cases h) lockProves_row_tie rfl ⟨rfl, rfl⟩ (by kernel_rfl) rfl
    (fun f fn hf hfn => by
      obtain rfl : f = 6 := Option.some.inj ((show Tryd.prog.funcNamed "demurral/demurrallaw06.LockProves" = some 6 by kernel_rfl).symm.trans hf) |>.symm
      obtain rfl : fn = Tryd.f6 := (Option.some.inj (Tryd.func6.symm.trans hfn)).symm
      exact ⟨by kernel_rfl, fun j t ht => by
        rw [Tryd.params6] at ht
        have hm : t ∈ [9, 9, 9, 3, 5] := by simpa using Array.mem_of_getElem? ht
        have hall : ([9, 9, 9, 3, 5].all fun u => !Tryd.prog.wantsStandIn u) = true := by kernel_rfl
        exact (show Tryd.prog.wantsStandIn t = false by simpa using List.all_eq_true.1 hall t hm)⟩)
    (by kernel_rfl)
#print axioms lockProves_card
end Go.Proofs.YtcpeljfjgbjnjaaDoor
