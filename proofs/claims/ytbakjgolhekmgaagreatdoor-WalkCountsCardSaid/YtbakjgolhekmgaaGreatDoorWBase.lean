/- WalkCounts: the program, its words, what is said of lex.Words. -/
import Derived.Test.YtbakjgolhekmgaaGreatDoorAmLit
import Derived.Test.YtbakjgolhekmgaaGreatDoorProg
import Derived.KernelRfl
namespace Go.Am.WC
open Go.Proofs

noncomputable abbrev P : Program := Tryz.prog
noncomputable def F (n : Nat) : Code := bodyAt Tryz.prog n
noncomputable def R (c : Code) (nt i : Nat) : AIt := regAt Tryz.prog c nt i
theorem hmix : Tryz.prog.follows .mixedOrders = true := by kernel_rfl
/-- what is known of strings.asciiSpace: of the blanks, and of the small letters. -/
def spaces : List (Nat × Nat) := [(9, 1), (10, 1), (11, 1), (12, 1), (13, 1), (32, 1), (97, 0), (98, 0), (99, 0), (100, 0), (101, 0), (102, 0), (103, 0), (104, 0), (105, 0), (106, 0), (107, 0), (108, 0), (109, 0), (110, 0), (111, 0), (112, 0), (113, 0), (114, 0), (115, 0), (116, 0), (117, 0), (118, 0), (119, 0), (120, 0), (121, 0), (122, 0)]
noncomputable def h0 : AH := onlyH 3 256 4106 spaces
noncomputable def wordsT : Tr AV := C [(.str 7561825 3), (.str 6579297 3), (.str 6646116 3), (.str 1702063205 4), (.str 1953066341 4), (.str 1668183398 4), (.str 7561576 3), (.str 26217 2), (.str 500186508905 5), (.str 7628140 3), (.str 7889261 3), (.str 25965 2), (.str 7235949 3), (.str 1684955506 4), (.str 495605343602 5), (.str 111559349986674 6), (.str 127961662514546 6), (.str 121437875889522 6), (.str 474449277043 5), (.str 1886352499 4), (.str 120282512849267 6), (.str 1801677172 4), (.str 435610544247 5), (.str 1752459639 4), (.str 32780218652715383 7), (.str 126879581958775 6)]
noncomputable def sm0 : Nat → List AV → AH → Option (AEnd × AH) := sumOf 3 256 spaces 153 wordsT 26 true 26 26 1 true
/-- the run of lex.Words: is it what is said of it? -/
noncomputable def wordsB : Bool := match callOf Tryz.prog [] (fun _ _ _ => none) 1000000 153 [] h0 with
  | some (r, ⟨t, _, _⟩) => AEnd.eqB r (.ret (.slice 4106 0 26 26 1 true)) && (match t.get 4106 with
    | some o => AO.eqB o (.cells wordsT 26 false 0 0 true false)
    | none => false)
  | none => false
set_option maxRecDepth 1000000
set_option maxHeartbeats 0
theorem words_run : wordsB = true := by kernel_rfl
theorem sm0_sound (hyp : Hyp) : CSound Tryz.prog hyp sm0 := by
  have h := words_run
  unfold wordsB at h
  cases hc : callOf Tryz.prog [] (fun _ _ _ => none) 1000000 153 [] h0 with
  | none => rw [hc] at h; cases h
  | some p =>
    obtain ⟨r, t, f, nx⟩ := p
    rw [hc] at h
    simp only [Bool.and_eq_true] at h
    obtain ⟨h1, h2⟩ := h
    obtain rfl := aend_eq h1
    cases hg : t.get 4106 with
    | none => rw [hg] at h2; cases h2
    | some o =>
      rw [hg] at h2
      obtain rfl := ao_eq _ _ h2
      exact sum_sound (b := 4106) hmix hyp (by decide) (by decide) (by kernel_rfl) hc hg
noncomputable def s0fr : AF := ⟨3, 156, argsIn [X (.var 0)] 0 .leaf, [.code (F 3)], [], .run, false⟩
theorem s0en : AF.enter Tryz.prog 3 [X (.var 0)] false = some s0fr := by kernel_rfl
noncomputable def s0 : St := ⟨s0fr, [], h0⟩
end Go.Am.WC
