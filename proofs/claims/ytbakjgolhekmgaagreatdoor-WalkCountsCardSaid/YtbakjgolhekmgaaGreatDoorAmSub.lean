/- States with variables replaced by expressions. -/
import Derived.Test.YtbakjgolhekmgaaGreatDoorAmRunT
namespace Go.Am

def SX.sub (f : Nat → SX) : SX → SX
  | .var i => f i
  | .lit n => .lit n
  | .op2 o k a b => .op2 o k (a.sub f) (b.sub f)
  | .op1 o k a => .op1 o k (a.sub f)
  | .conv k a => .conv k (a.sub f)
  | .mn a b => .mn (a.sub f) (b.sub f)
  | .mx a b => .mx (a.sub f) (b.sub f)
def AI.ofX (e : SX) : AI := match e with
  | .lit n => .c n
  | e => .s e
def AI.sub (f : Nat → SX) (a : AI) : AI := match a with
  | .c n => .c n
  | .s e => AI.ofX (e.sub f)
mutual
def AV.sub (f : Nat → SX) : AV → AV
  | .int k a => .int k (a.sub f)
  | .func fn a b => .func fn (AV.subs f a) (AV.subs f b)
  | .iface t v => .iface t (AV.sub f v)
  | .agg cs => .agg (AV.subs f cs)
  | .tup cs => .tup (AV.subs f cs)
  | .bot => .bot
  | .bool b => .bool b
  | .str s n => .str s n
  | .nilptr => .nilptr
  | .ptr b o => .ptr b o
  | .nilslice => .nilslice
  | .slice b o l c z e => .slice b o l c z e
  | .nilmap => .nilmap
  | .map b => .map b
  | .nilfunc => .nilfunc
  | .nilface => .nilface
def AV.subs (f : Nat → SX) : List AV → List AV
  | [] => []
  | a :: l => AV.sub f a :: AV.subs f l
end
def Tr.map {α : Type} (g : α → α) : Tr α → Tr α
  | .leaf => .leaf
  | .node v l r => .node (match v with | some x => some (g x) | none => none) (l.map g) (r.map g)
theorem Tr.get_map {α : Type} (g : α → α) : ∀ (t : Tr α) (n : Nat), (t.map g).get n = (t.get n).map g
  | .leaf, n => by simp [Tr.map]
  | .node v l r, n => by
    simp only [Tr.map, Tr.get_node, Tr.get_map g l, Tr.get_map g r]
    split
    · cases v <;> rfl
    · split <;> rfl
def esSub (f : Nat → SX) : List (AV × AV × Nat) → List (AV × AV × Nat)
  | [] => []
  | (k, v, n) :: l => (k.sub f, v.sub f, n) :: esSub f l
def AO.sub (f : Nat → SX) : AO → AO
  | .cells t n sh fam co pl ro => .cells (t.map (AV.sub f)) n sh fam co pl ro
  | .map es clock => .map (esSub f es) clock
def AH.sub (f : Nat → SX) (h : AH) : AH := ⟨h.t.map (AO.sub f), h.f, h.nx⟩
def dsSub (f : Nat → SX) : List (Nat × List AV) → List (Nat × List AV)
  | [] => []
  | (g, l) :: d => (g, AV.subs f l) :: dsSub f d
def psSub (f : Nat → SX) : List (AV × Bool) → List (AV × Bool)
  | [] => []
  | (v, b) :: d => (v.sub f, b) :: psSub f d
def AMode.sub (f : Nat → SX) : AMode → AMode
  | .run => .run
  | .returning => .returning
  | .panicking c => .panicking (psSub f c)
def AF.sub (f : Nat → SX) (c : AF) : AF := ⟨c.fn, c.nt, c.tm.map (AV.sub f), c.todo, dsSub f c.defers, c.mode.sub f, c.deferred⟩
def fsSub (f : Nat → SX) : List AF → List AF
  | [] => []
  | c :: l => c.sub f :: fsSub f l
def St.sub (f : Nat → SX) (s : St) : St := ⟨s.fr.sub f, fsSub f s.cs, s.h.sub f⟩

section
variable {E : Env} {f : Nat → SX}
def Env.sub (E : Env) (f : Nat → SX) : Env := ⟨E.σ, fun k => (f k).den E.ρ⟩
theorem SX.den_sub (f : Nat → SX) (ρ : Nat → Int) : ∀ e : SX, (e.sub f).den ρ = e.den fun k => (f k).den ρ
  | .var i => rfl
  | .lit n => rfl
  | .op2 o k a b => by simp only [SX.sub, SX.den, SX.den_sub f ρ a, SX.den_sub f ρ b]
  | .op1 o k a => by simp only [SX.sub, SX.den, SX.den_sub f ρ a]
  | .conv k a => by simp only [SX.sub, SX.den, SX.den_sub f ρ a]
  | .mn a b => by simp only [SX.sub, SX.den, SX.den_sub f ρ a, SX.den_sub f ρ b]
  | .mx a b => by simp only [SX.sub, SX.den, SX.den_sub f ρ a, SX.den_sub f ρ b]
theorem AI.den_ofX (ρ : Nat → Int) (e : SX) : (AI.ofX e).den ρ = e.den ρ := by cases e <;> rfl
theorem AI.den_sub (f : Nat → SX) (ρ : Nat → Int) (a : AI) : (a.sub f).den ρ = a.den fun k => (f k).den ρ := by
  cases a with
  | c n => rfl
  | s e => simp only [AI.sub, AI.den_ofX, SX.den_sub]; rfl
mutual
theorem VR.sub : ∀ (a : AV) (y : Value), VR E (a.sub f) y → VR (E.sub f) a y
  | .int k a, y, h => by
    have h : y = .int k ((a.sub f).den E.ρ) := h
    rw [AI.den_sub] at h
    exact h
  | .func fn a b, y, ⟨x, z, h1, h2, h3⟩ => ⟨x, z, h1, VRs.sub a _ h2, VRs.sub b _ h3⟩
  | .iface t v, y, ⟨x, h1, h2⟩ => ⟨x, h1, VR.sub v _ h2⟩
  | .agg cs, y, ⟨x, h1, h2⟩ => ⟨x, h1, VRs.sub cs _ h2⟩
  | .tup cs, y, ⟨x, h1, h2⟩ => ⟨x, h1, VRs.sub cs _ h2⟩
  | .bot, y, h => h
  | .bool b, y, h => h
  | .str s n, y, h => h
  | .nilptr, y, h => h
  | .ptr b o, y, h => h
  | .nilslice, y, h => h
  | .slice b o l c z e, y, h => h
  | .nilmap, y, h => h
  | .map b, y, h => h
  | .nilfunc, y, h => h
  | .nilface, y, h => h
theorem VRs.sub : ∀ (a : List AV) (y : List Value), VRs E (AV.subs f a) y → VRs (E.sub f) a y
  | [], y, h => h
  | a :: l, y, ⟨x, xs, h1, h2, h3⟩ => ⟨x, xs, h1, VR.sub a _ h2, VRs.sub l _ h3⟩
end
theorem ERel.sub : ∀ (es : List (AV × AV × Nat)) (ms : List MapEntry), ERel E (esSub f es) ms → ERel (E.sub f) es ms
  | [], ms, h => h
  | (k, v, n) :: l, ms, ⟨e, es', h1, h2, h3, h4, h5⟩ => ⟨e, es', h1, VR.sub k _ h2, VR.sub v _ h3, h4, ERel.sub l _ h5⟩
theorem ORel.sub {o : AO} {x : Slot} {w : World} (h : ORel E (o.sub f) x w) : ORel (E.sub f) o x w := by
  cases o with
  | cells t n sh fam co pl ro =>
    obtain ⟨c, el, fz, h1, h2, h3, h4, h5, h6⟩ := h
    refine ⟨c, el, fz, h1, h2, h3, h4, h5, fun i v hi => ?_⟩
    obtain ⟨g1, y, g2, g3⟩ := h6 i (v.sub f) (by rw [Tr.get_map, hi]; rfl)
    exact ⟨g1, y, g2, VR.sub v _ g3⟩
  | map es clock =>
    obtain ⟨h1, es', h2, h3⟩ := h
    exact ⟨h1, es', h2, ERel.sub es _ h3⟩
theorem TRel.sub {tm : Tr AV} {vs : Array Value} (h : TRel E (tm.map (AV.sub f)) vs) : TRel (E.sub f) tm vs :=
  fun t v hv => VR.sub v _ (h t (v.sub f) (by rw [Tr.get_map, hv]; rfl))
theorem Kin.sub {o o' : AO} {x x' : Slot} (h : Kin (o.sub f) (o'.sub f) x x') : Kin o o' x x' := by
  obtain ⟨t, n, fam, co, pl, t', n', co', pl', e1, e2, e3⟩ := h
  cases o with
  | map => cases e1
  | cells a1 a2 a3 a4 a5 a6 a7 =>
    cases o' with
    | map => cases e2
    | cells b1 b2 b3 b4 b5 b6 b7 =>
      simp only [AO.sub, AO.cells.injEq] at e1 e2
      obtain ⟨_, rfl, rfl, rfl, rfl, rfl, rfl⟩ := e1
      obtain ⟨_, rfl, rfl, rfl, rfl, rfl, rfl⟩ := e2
      exact ⟨_, _, _, _, _, _, _, _, _, rfl, rfl, e3⟩
theorem HRel.sub {h : AH} {w : World} (hr : HRel E (h.sub f) w) : HRel (E.sub f) h w := by
  have hget : ∀ b o, h.t.get b = some o → (h.sub f).t.get b = some (o.sub f) := fun b o hb => by
    show (h.t.map (AO.sub f)).get b = _
    rw [Tr.get_map, hb]; rfl
  refine ⟨fun b o hb => ?_, fun b b' o o' x x' h1 h2 h3 h4 h5 h6 => (hr.sep b b' _ _ x x' h1 (hget b o h2) (hget b' o' h3) h4 h5 h6).sub, fun b t n fam co pl ro hb => hr.shl b _ n fam co pl ro (hget b _ hb), hr.fresh, hr.glob, hr.base⟩
  obtain ⟨x, hx, ho⟩ := hr.obj b _ (hget b o hb)
  exact ⟨x, hx, ho.sub⟩
variable {P : Program}
theorem DsRel.sub : ∀ {d : List (Nat × List AV)} {ds : List Deferred}, DsRel P E (dsSub f d) ds → DsRel P (E.sub f) d ds
  | [], _, h => h
  | (g, l) :: d, _, ⟨y, ys, h1, ⟨fn, cap, zs, h2, h3, h4⟩, h5⟩ => ⟨y, ys, h1, ⟨fn, cap, zs, h2, VRs.sub l _ h3, h4⟩, DsRel.sub h5⟩
theorem PsRel.sub : ∀ {c : List (AV × Bool)} {ps : List PanicEntry}, PsRel E (psSub f c) ps → PsRel (E.sub f) c ps
  | [], _, h => h
  | (v, b) :: c, _, ⟨y, ys, h1, h2, h3, h4, h5⟩ => ⟨y, ys, h1, VR.sub v _ h2, h3, h4, PsRel.sub h5⟩
theorem MRel.sub {m : AMode} {fm : FrameMode} (h : MRel E (m.sub f) fm) : MRel (E.sub f) m fm := by
  cases m with
  | run => exact h
  | returning => exact h
  | panicking c => obtain ⟨c', h1, h2⟩ := h; exact ⟨c', h1, PsRel.sub h2⟩
theorem mode_sub_run {m : AMode} : m.sub f = .run ↔ m = .run := by cases m <;> simp [AMode.sub]
theorem FRel.sub {c : AF} {fr : Frame} (h : FRel P E (c.sub f) fr) : FRel P (E.sub f) c fr :=
  ⟨h.fn, h.is, TRel.sub h.tm, h.size, fun hm => h.todo (mode_sub_run.2 hm), DsRel.sub h.defers, MRel.sub h.mode, h.kind, h.round⟩
theorem FsRel.sub : ∀ {cs : List AF} {fs : List Frame}, FsRel P E (fsSub f cs) fs → FsRel P (E.sub f) cs fs
  | [], _, h => h
  | c :: cs, _, ⟨y, ys, h1, h2, h3⟩ => ⟨y, ys, h1, FRel.sub h2, FsRel.sub h3⟩
theorem SRel.sub {s : St} {fr : Frame} {fs : List Frame} {w : World} (h : SRel P E (s.sub f) fr fs w) : SRel P (E.sub f) s fr fs w :=
  ⟨HRel.sub h.hr, FRel.sub h.fr, FsRel.sub h.cs⟩
end
end Go.Am
