/- WalkCounts: the contract: for every argument, in every world that holds the listed variables. -/
import Derived.Test.YtbakjgolhekmgaaGreatDoorCards
import Derived.Test.YtbakjgolhekmgaaGreatDoorWAll
import Derived.WalkKit
import Derived.ProofKit
import Derived.OpenShut
import Derived.Below
import Derived.ChangeSame
import Derived.Deep.DeepHandedRow
import Derived.Deep.DeepWitnessRowRef
import Derived.Lib.LaidTab
import Derived.Lib.LaidIn
namespace Go.Proofs.YtbakjgolhekmgaaGreatDoor
open Go.ChangeShapes Go.WideShapes Go.ChangeAt Go.RowKit
namespace Fin
open Go.Am Go.Lib

theorem own : ownKnob Tryz.prog.godebug = none := by kernel_rfl
/-- the bytes of strings.asciiSpace. -/
def spaceTab : List Int := (List.range 256).map fun i => if i = 9 ∨ i = 10 ∨ i = 11 ∨ i = 12 ∨ i = 13 ∨ i = 32 then 1 else 0
theorem gTab : Tryz.prog.globalNamed "strings.asciiSpace" = some 3 := by kernel_rfl
theorem laid_last (W : World) (h : laidMetH Tryz.prog Rows.walkCountsRow.laid W) : laidMet Tryz.prog [("strings.asciiSpace", tabData .u8 spaceTab)] W := by
  have h1 : laidMet Tryz.prog Rows.walkCountsRow.laid W := h
  obtain ⟨ps, h2, h3, h4⟩ := h1
  obtain ⟨_, _, _, _, _, q1, _, _, _, _, h2, rfl⟩ := h2
  obtain ⟨_, _, _, _, _, q2, _, _, _, _, h2, rfl⟩ := h2
  obtain ⟨_, _, _, _, _, q3, _, _, _, _, h2, rfl⟩ := h2
  obtain ⟨_, _, _, _, _, q4, _, _, _, _, h2, rfl⟩ := h2
  obtain ⟨_, _, _, _, _, q5, _, _, _, _, h2, rfl⟩ := h2
  obtain ⟨_, _, _, _, _, q6, _, _, _, _, h2, rfl⟩ := h2
  have e : (Rows.laid_strings_asciiSpace : DataW Unit) = tabData .u8 spaceTab := by kernel_rfl
  rw [e] at h2
  refine ⟨q6, h2, ?_, fun b off hp => h4 b off ?_⟩
  · simp only [List.nodup_append] at h3
    exact h3.2.1.2.1.2.1.2.1.2.1.2.1
  · simp only [List.mem_append]
    exact .inr (.inr (.inr (.inr (.inr (.inr hp)))))
theorem table {W : World} (h : laidMetH Tryz.prog Rows.walkCountsRow.laid W) : TabIs Tryz.prog W "strings.asciiSpace" .u8 spaceTab :=
  tabIs_of_head (rest := []) gTab (by kernel_rfl) (t := 247) (e := 5) (n := 256) (by kernel_rfl) (by kernel_rfl) (by kernel_rfl) (by kernel_rfl) (laid_last W h)
theorem spaces_tab : ∀ i m, (i, m) ∈ WC.spaces → i < 256 ∧ spaceTab.getD i 0 = Int.ofNat m := by
  have h : (WC.spaces.all fun p => decide (p.1 < 256) && decide (spaceTab.getD p.1 0 = Int.ofNat p.2)) = true := by kernel_rfl
  intro i m hm
  have := List.all_eq_true.1 h _ hm
  simpa using this
/-- what is known ahead of the call. -/
def env0 (n : Int) : Env := ⟨fun g => if g < 4096 then some ⟨g, 0, if g = 3 then 256 else 0⟩ else none, fun _ => n⟩
theorem start {W : World} (h : laidMetH Tryz.prog Rows.walkCountsRow.laid W) (n : Int) : HRel (env0 n) WC.h0 W where
  obj := fun b o hb => by
    obtain ⟨rfl, rfl⟩ := only_get hb
    have hc := fun i hi => (table h).cell gTab i hi
    have hlen : spaceTab.length = 256 := by kernel_rfl
    have h255 := hc 255 (by rw [hlen]; decide)
    unfold World.cell? at h255
    simp only at h255
    split at h255
    · rename_i c el fz hb'
      simp only [Option.isSome_none, Bool.false_eq_true, if_false] at h255
      have hsz : 255 < c.size := by
        rcases Nat.lt_or_ge 255 c.size with h1 | h1
        · exact h1
        · rw [Array.getElem?_eq_none h1] at h255; cases h255
      refine ⟨⟨3, 0, 256⟩, rfl, c, el, fz, hb', by show 0 + 256 ≤ c.size; omega, Nat.le_refl _, (fun h => by cases h), (fun h => by cases h), fun i v hi => ?_⟩
      rcases get_rowT _ _ i v hi with ⟨m, q1, rfl⟩ | q1
      · obtain ⟨r1, r2⟩ := spaces_tab i m q1
        have hci := hc i (by rw [hlen]; exact r1)
        unfold World.cell? at hci
        simp only [hb', Option.isSome_none, Bool.false_eq_true, if_false] at hci
        refine ⟨r1, _, by show c[0 + i]? = _; rw [Nat.zero_add]; exact hci, ?_⟩
        rw [r2]
        rfl
      · simp at q1
    · cases h255
  sep := fun b b' o o' x x' hne h1 h2 => by
    obtain ⟨rfl, _⟩ := only_get h1
    obtain ⟨rfl, _⟩ := only_get h2
    exact absurd rfl hne
  shl := fun b t m fam co pl ro hb => by
    obtain ⟨_, e⟩ := only_get hb
    cases e
  fresh := fun b hb => by
    have hb : 4106 ≤ b := hb
    have : ¬ b < 4096 := by omega
    simp only [env0, this, if_false]
  glob := fun c hc => ⟨if c = 3 then 256 else 0, by simp only [env0, hc, if_true]⟩
  base := by decide
theorem walk {W : World} (h : laidMetH Tryz.prog Rows.walkCountsRow.laid W) (n : Int) (hn : -9223372036854775808 ≤ n ∧ n ≤ 9223372036854775807) :
    Calls Tryz.prog 3 #[.int .i64 n] W fun e w' => e = .returned (.bool true) ∧ Below W.heap.size W w' := by
  intro cs
  have hr := start h n
  obtain ⟨E', fr', w', en, s1, _, s3, s4, s5, _, s7⟩ := WC.all_good (env0 n) W hn (env0 n) (Frame.enter Tryz.prog 3 #[.int .i64 n] .normal) [] W rfl
    ⟨hr, enter_spec WC.s0en (VRs.cons (show VR (env0 n) (X (.var 0)) (.int .i64 n) from rfl) VRs.nil), rfl⟩ (Since.start _ _ _) rfl cs
  obtain ⟨y, rfl, hy⟩ := s3
  have hy : y = .bool true := hy
  subst hy
  refine ⟨_, w', fr', ⟨rfl, s7.os, s7.tape, s7.output, s7.size, fun k hk => s7.keep k hk fun b o x h1 h2 _ => ?_⟩, s1, s5, s4⟩
  obtain ⟨_, rfl⟩ := only_get h1
  cases h2
section
variable {H : Type} {enc : TypeId × Value → H} {P : Program}
theorem post_of_below {f : Func} {s : ChangeSpec} {apart fresh handsOn again : Bool} {W W' : World} {args : Array Value} {v : Value} {ds gs : List (DataW H)} {before pa pv : List MemPlace}
    (hW : DataW.Whole enc P f.params.toList s.vars apart W args.toList ds gs before)
    (hres : ∀ (b : Nat) (sp : Nat → Bool) (hd : Bool), DataW.TrodAll enc P W' b sp hd f.resultTypes.toList (v.resultList f.resultTypes.size) (s.fn H (ds ++ gs)).results [])
    (hargs : ∀ sp : Nat → Bool, (∀ p ∈ before, sp p.block = true) → DataW.TrodAll enc P W' 0 sp true f.params.toList args.toList (s.fn H (ds ++ gs)).args pa)
    (hvars : ∀ sp : Nat → Bool, (∀ p ∈ before, sp p.block = true) → DataW.TrodVars enc P W' sp s.vars (s.fn H (ds ++ gs)).vars pv)
    (hps : before = pa ++ pv) (hb : Below W.heap.size W W')
    (hok : ∀ (j : Nat) (t : TypeId) (r : Value), f.resultTypes[j]? = some t → (v.resultList f.resultTypes.size)[j]? = some r → Value.okWide P W' .any 0 t r) :
    s.post enc P f apart fresh handsOn again W args v W' := by
  have hlt : ∀ p ∈ before, p.block < W.heap.size := fun p hp => hW.lt p hp
  have hold : ∀ p ∈ before, (fun b => decide (b < W.heap.size)) p.block = true := fun p hp => by simpa using hlt p hp
  refine ⟨ds, gs, before, [], pa, pv, hW, hres _ _ _, hargs _ hold, hvars _ hold, World.keptBut_mono (fun p hp => ⟨hp, ?_⟩) (hb.frame (· ∈ before)), fun _ => ?_⟩
  · rw [hps, List.mem_append] at hp
    exact Or.inr hp
  · obtain ⟨_, _, _, _, _, hz, hn⟩ := hW
    refine ⟨hok, _, _, ([] ++ pa) ++ pv, ⟨[] ++ pa, pv, trodAll_append (hargs _ (fun _ _ => rfl)) (hres _ _ _), hvars _ (fun _ _ => rfl), rfl, ?_, ?_⟩, ?_⟩
    · intro b off hp
      have hin : MemPlace.cell b off ∈ before := by rw [hps]; simpa using hp
      rw [hb.frozen (hlt _ hin)]
      exact hz b off hin
    · intro ha
      have := hn ha
      rw [hps] at this
      simpa using this
    · intro p hp _
      rw [hps]
      simpa using hp
end
set_option maxRecDepth 100000 in
/-- for every argument, in every world that holds the listed variables. -/
theorem contract (H : Type) (enc : TypeId × Value → H) (W : World) (base : Nat) (args : Array Value) (ds gs : List (DataW H)) (before : List MemPlace)
    (hval : ∀ (j : Nat) t v, Tryz.f3.params[j]? = some t → args[j]? = some v → Value.okWide Tryz.prog W .any base t v)
    (hW : DataW.Whole enc Tryz.prog Tryz.f3.params.toList Rows.walkCountsSpec.vars false W args.toList ds gs before) (hL : laidMetH Tryz.prog Rows.walkCountsRow.laid W) :
    Calls Tryz.prog 3 args W fun e W' => ∃ v, e = .returned v ∧ Rows.walkCountsSpec.post enc Tryz.prog Tryz.f3 false true false false W args v W' := by
  have hW' := hW
  obtain ⟨p, q, hA0, hV, rfl, hfz, hnd⟩ := hW
  have hA : DataW.TrodAll enc Tryz.prog W 0 (fun _ => true) true Tryz.f3.params.toList args.toList ds p := hA0
  rw [Tryz.params3] at hA hval
  obtain ⟨v0, vs0, d0, ds0, p0, q0, hargs, rfl, rfl, h0, r0⟩ := trodAll_cons hA
  obtain ⟨rfl, rfl, rfl⟩ := trodAll_nil r0
  obtain rfl : args = #[v0] := by cases args; simp_all
  obtain ⟨rfl, rfl⟩ := trodVars_none hV
  obtain ⟨n, rfl, rfl, rfl, wn⟩ := open_int Tryz.underlying2 (hval 0 2 v0 rfl rfl) h0
  clear hA0
  simp only [List.append_nil] at hW'
  have hn : -9223372036854775808 ≤ n ∧ n ≤ 9223372036854775807 := by
    have := wn
    simp [Lit.wf, IntKind.min, IntKind.max, IntKind.bits, IntKind.signed] at this
    omega
  refine (walk hL n hn).mono fun e W' ⟨he, hb⟩ => ?_
  subst he
  exact ⟨_, rfl, post_of_below (pa := []) (pv := []) hW' (fun _ _ _ => trodAll_cons_mk (shut_bool Tryz.underlying4 _) trodAll_mk0) (fun _ _ => trodAll_cons_mk (shut_int Tryz.underlying2 wn) trodAll_mk0) (fun _ _ => rfl) rfl
    hb (ok_one (by kernel_rfl) rfl (okWide_bool_mk Tryz.underlying4 _))⟩

end Fin
end Go.Proofs.YtbakjgolhekmgaaGreatDoor
