import PyProof.Rows.All
import Wide.All
import OpenK.AllK
import Wide.FinOn
import PySem.Challenge.RW_xw0324_01
open PySem PySem.W PyProof.Rows
set_option Elab.async false
namespace Mine

/-- the nearer one of both, or the number itself -/
@[irreducible] def clampI (l x m : Int) : Int := if x < l then l else if x > m then m else x

/-- the pool's end: a fresh list of two ints, the second one small; nothing else of the ledger is kept -/
def PoolEnd (h₀ : Heap) (L : Addr) (m : Str → Option Value) (s : Shared) (v : Value) (s' : Shared) : Prop :=
  ∃ (l : Addr) (a b : Int) (ta tb : Tok) (n : Nat) (h : Heap) (tk : Nat), v = .ref l ∧ s' = { s with heap := h, toks := tk } ∧ 0 ≤ b ∧ b < 2147483647 ∧
    Fr h₀ L h m ∧ News h₀ L h [(l, PySem.W.listOf #[.int a ta, .int b tb] n)]

theorem pool_end {h₀ h : Heap} {L l : Addr} {m : Str → Option Value} {s s' : Shared} {v : Value} {a X : Int} {ta tb : Tok} {n : Nat} {tk : Nat} {news : List (Addr × Obj)}
    (hv : v = .ref l) (hs : s' = { s with heap := h, toks := tk }) (F : Fr h₀ L h m) (N : News h₀ L h news)
    (hm : (l, PySem.W.listOf #[.int a ta, .int (X.fmod 2147483647) tb] n) ∈ news) : PoolEnd h₀ L m s v s' :=
  ⟨l, a, X.fmod 2147483647, ta, tb, n, h, tk, hv, hs, Int.fmod_nonneg_of_pos _ (by decide), Int.fmod_lt_of_pos _ (by decide), F,
    fun p hp => N p (by rw [List.mem_singleton.mp hp]; exact hm)⟩

theorem pool_join {M : Model} {A : Around} {E : Value → Shared → Prop} {Q : Value → Shared → Prop} {s : Shared} {h₀ : Heap} {L : Addr} {m : Str → Option Value} {c : Sem Value}
    (_F : Fr h₀ L s.heap m)
    (hc : wpAny M A c (PoolEnd h₀ L m s) E s)
    (hk : ∀ (l : Addr) (a b : Int) (ta tb : Tok) (n : Nat) (h : Heap) (tk : Nat), 0 ≤ b → b < 2147483647 → Fr h₀ L h m → News h₀ L h [(l, PySem.W.listOf #[.int a ta, .int b tb] n)] → Q (.ref l) { s with heap := h, toks := tk }) :
    wpAny M A c Q E s := by
  refine wpAny_mono hc (fun v s₂ hq => ?_) fun _ _ h => h
  obtain ⟨l, a, b, ta, tb, n, h, tk, rfl, rfl, h1, h2, F, N⟩ := hq
  exact hk l a b ta tb n h tk h1 h2 F N

/-- a draw's end: the number drawn lies from 0 to below top; the source's two ints are new, the second one small -/
def TakeEnd (h₀ : Heap) (L : Addr) (m : Str → Option Value) (pre post : List (Addr × Obj)) (src : Addr) (n : Nat) (top : Int) (s : Shared) (v : Value) (s' : Shared) : Prop :=
  ∃ (r a b : Int) (t ta tb : Tok) (h : Heap) (tk : Nat), v = .int r t ∧ s' = { s with heap := h, toks := tk } ∧ 0 ≤ r ∧ r < top ∧ 0 ≤ b ∧ b < 2147483647 ∧
    Fr h₀ L h m ∧ News h₀ L h (pre ++ (src, PySem.W.listOf #[.int a ta, .int b tb] n) :: post)

theorem take_end {h₀ h : Heap} {L src : Addr} {m : Str → Option Value} {pre post news : List (Addr × Obj)} {s s' : Shared} {v : Value} {X a b top : Int} {t ta tb : Tok} {n : Nat} {tk : Nat}
    (hv : v = .int (X.fmod top) t) (hs : s' = { s with heap := h, toks := tk }) (h0 : 0 < top) (hb0 : 0 ≤ b) (hb1 : b < 2147483647) (F : Fr h₀ L h m) (N : News h₀ L h news)
    (hn : ∀ p ∈ pre ++ (src, PySem.W.listOf #[.int a ta, .int b tb] n) :: post, p ∈ news) : TakeEnd h₀ L m pre post src n top s v s' :=
  ⟨X.fmod top, a, b, t, ta, tb, h, tk, hv, hs, Int.fmod_nonneg_of_pos _ h0, Int.fmod_lt_of_pos _ h0, hb0, hb1, F, fun p hp => N p (hn p hp)⟩

theorem take_join {M : Model} {A : Around} {E : Value → Shared → Prop} {Q : Value → Shared → Prop} {s : Shared} {h₀ : Heap} {L src f : Addr} {m : Str → Option Value} (pre : List (Addr × Obj)) {post : List (Addr × Obj)} {n : Nat} {top a b : Int} {tt ta tb : Tok}
    (_F : Fr h₀ L s.heap m) (_N : News h₀ L s.heap (pre ++ (src, PySem.W.listOf #[.int a ta, .int b tb] n) :: post)) (_h0 : 0 < top) (_hb0 : 0 ≤ b) (_hb1 : b < 2147483647)
    (hc : wpAny M A (call (.ref f) [.ref src, .int top tt]) (TakeEnd h₀ L m pre post src n top s) E s)
    (hk : ∀ (r a b : Int) (t ta tb : Tok) (h : Heap) (tk : Nat), 0 ≤ r → r < top → 0 ≤ b → b < 2147483647 → Fr h₀ L h m → News h₀ L h (pre ++ (src, PySem.W.listOf #[.int a ta, .int b tb] n) :: post) → Q (.int r t) { s with heap := h, toks := tk }) :
    wpAny M A (call (.ref f) [.ref src, .int top tt]) Q E s := by
  refine wpAny_mono hc (fun v s₂ hq => ?_) fun _ _ h => h
  obtain ⟨r, a, b, t, ta, tb, h, tk, rfl, rfl, h1, h2, h3, h4, F, N⟩ := hq
  exact hk r a b t ta tb h tk h1 h2 h3 h4 F N

theorem mul_fmod (x y : Int) : PySem.IntMulOk (x.fmod 2147483647) y := by
  have h1 := Int.fmod_nonneg_of_pos x (b := 2147483647) (by decide)
  have h2 := Int.fmod_lt_of_pos x (b := 2147483647) (by decide)
  exact PySem.IntMulOk.of_left (PySem.intBits_le_64 (by omega) (by omega))

/-- the middle one of three, the first being at most the third -/
theorem mid3 {n : List Int} {l x m : Int} (p : n.Perm [l, x, m]) (o : n.Pairwise (· ≤ ·)) (h : l ≤ m) : n.getD 1 0 = clampI l x m := by
  have hl : n.length = 3 := p.length_eq
  match n, hl with
  | [a, b, c], _ =>
    have o1 : a ≤ b := by simp only [List.pairwise_cons, List.mem_cons, List.not_mem_nil, or_false] at o; exact o.1 b (.inl rfl)
    have o2 : b ≤ c := by simp only [List.pairwise_cons, List.mem_cons, List.not_mem_nil, or_false] at o; exact o.2.1 c rfl
    have s := List.Perm.foldr_eq' (f := fun (u v : Int) => u + v) p (fun _ _ _ _ _ => by omega) 0
    simp only [List.foldr_cons, List.foldr_nil] at s
    have ha : a = l ∨ a = x ∨ a = m := by simpa using p.mem_iff.mp (List.mem_cons_self (a := a) (l := [b, c]))
    have hc : c = l ∨ c = x ∨ c = m := by simpa using p.mem_iff.mp (show c ∈ [a, b, c] by simp)
    have ml : l = a ∨ l = b ∨ l = c := by simpa using p.mem_iff.mpr (show l ∈ [l, x, m] by simp)
    have mx : x = a ∨ x = b ∨ x = c := by simpa using p.mem_iff.mpr (show x ∈ [l, x, m] by simp)
    have mm : m = a ∨ m = b ∨ m = c := by simpa using p.mem_iff.mpr (show m ∈ [l, x, m] by simp)
    show b = clampI l x m
    unfold clampI
    split
    · omega
    · split <;> omega

/-- the value is the number bounded from l to m -/
def ClampV (l x m : Int) (v : Value) : Prop := ∃ t, v = .int (clampI l x m) t
theorem clamp_lo {l x m : Int} {t : Tok} (h : x < l) : ClampV l x m (.int l t) := ⟨t, by unfold clampI; rw [if_pos h]⟩
theorem clamp_hi {l x m : Int} {t : Tok} (h : ¬ x < l) (h2 : x > m) : ClampV l x m (.int m t) := ⟨t, by unfold clampI; rw [if_neg h, if_pos h2]⟩
theorem clamp_in {l x m : Int} {t : Tok} (h : ¬ x < l) (h2 : ¬ x > m) : ClampV l x m (.int x t) := ⟨t, by unfold clampI; rw [if_neg h, if_neg h2]⟩
theorem clamp_mid {n : List Int} {l x m : Int} {t : Tok} (p : n.Perm [l, x, m]) (o : n.Pairwise (· ≤ ·)) (h : l ≤ m) : ClampV l x m (.int (n.getD (Int.toNat 1) 0) t) :=
  ⟨t, by rw [← mid3 p o h]; rfl⟩

/-- an end that leaves the ledger's named part as it was -/
def SameEnd (h₀ : Heap) (L : Addr) (m : Str → Option Value) (news : List (Addr × Obj)) (P : Value → Prop) (s : Shared) (v : Value) (s' : Shared) : Prop :=
  ∃ (h : Heap) (tk : Nat), s' = { s with heap := h, toks := tk } ∧ P v ∧ Fr h₀ L h m ∧ News h₀ L h news

theorem same_end {h₀ h : Heap} {L : Addr} {m : Str → Option Value} {news news' : List (Addr × Obj)} {P : Value → Prop} {s s' : Shared} {v : Value} {tk : Nat}
    (hs : s' = { s with heap := h, toks := tk }) (hp : P v) (F : Fr h₀ L h m) (N : News h₀ L h news') (hn : ∀ p ∈ news, p ∈ news') : SameEnd h₀ L m news P s v s' :=
  ⟨h, tk, hs, hp, F, fun p q => N p (hn p q)⟩

theorem clamp_join {M : Model} {A : Around} {E : Value → Shared → Prop} {Q : Value → Shared → Prop} {s : Shared} {h₀ : Heap} {L : Addr} {m : Str → Option Value} {news : List (Addr × Obj)} {c : Sem Value} (l x mo : Int)
    (_F : Fr h₀ L s.heap m) (_N : News h₀ L s.heap news) (hc : wpAny M A c (SameEnd h₀ L m news (ClampV l x mo) s) E s)
    (hk : ∀ (t : Tok) (h : Heap) (tk : Nat), Fr h₀ L h m → News h₀ L h news → Q (.int (clampI l x mo) t) { s with heap := h, toks := tk }) : wpAny M A c Q E s := by
  refine wpAny_mono hc (fun v s₂ hq => ?_) fun _ _ h => h
  obtain ⟨h, tk, rfl, ⟨t, rfl⟩, F, N⟩ := hq
  exact hk t h tk F N

/-- the bounded number: the bounds are read off the object's dict -/
theorem bounded_join {M : Model} {A : Around} {E : Value → Shared → Prop} {Q : Value → Shared → Prop} {s : Shared} {h₀ : Heap} {L f x d C : Addr} {m : Str → Option Value} (pre : List (Addr × Obj)) {post : List (Addr × Obj)}
    {h2 h3 : Int} {k2 k3 : Value} {l mo y : Int} {tl tm ty : Tok} {e1 e4 e5 e6 : DictEntry} {n : Nat}
    (F : Fr h₀ L s.heap m) (N : News h₀ L s.heap (pre ++ (x, instObj C d) :: (d, PySem.W.dictOf [e1, ⟨h2, k2, .int l tl⟩, ⟨h3, k3, .int mo tm⟩, e4, e5, e6] n) :: post))
    (hc : wpAny M A (call (.ref f) [.ref x, .int y ty]) (SameEnd h₀ L m (pre ++ (x, instObj C d) :: (d, PySem.W.dictOf [e1, ⟨h2, k2, .int l tl⟩, ⟨h3, k3, .int mo tm⟩, e4, e5, e6] n) :: post) (ClampV l y mo) s) E s)
    (hk : ∀ (t : Tok) (h : Heap) (tk : Nat), Fr h₀ L h m → News h₀ L h (pre ++ (x, instObj C d) :: (d, PySem.W.dictOf [e1, ⟨h2, k2, .int l tl⟩, ⟨h3, k3, .int mo tm⟩, e4, e5, e6] n) :: post) → Q (.int (clampI l y mo) t) { s with heap := h, toks := tk }) :
    wpAny M A (call (.ref f) [.ref x, .int y ty]) Q E s := clamp_join l y mo F N hc hk

theorem middle_join {M : Model} {A : Around} {E : Value → Shared → Prop} {Q : Value → Shared → Prop} {s : Shared} {h₀ : Heap} {L f : Addr} {m : Str → Option Value} {news : List (Addr × Obj)}
    {l mo y : Int} {tl tm ty : Tok} (F : Fr h₀ L s.heap m) (N : News h₀ L s.heap news)
    (hc : wpAny M A (call (.ref f) [.int l tl, .int y ty, .int mo tm]) (SameEnd h₀ L m news (ClampV l y mo) s) E s)
    (hk : ∀ (t : Tok) (h : Heap) (tk : Nat), Fr h₀ L h m → News h₀ L h news → Q (.int (clampI l y mo) t) { s with heap := h, toks := tk }) :
    wpAny M A (call (.ref f) [.int l tl, .int y ty, .int mo tm]) Q E s := clamp_join l y mo F N hc hk

/-- a draw (or what is drawn of a list): as take_join, of any call; what lies ahead of the named part is dropped -/
theorem draw_join {M : Model} {A : Around} {E : Value → Shared → Prop} {Q : Value → Shared → Prop} {s : Shared} {h₀ : Heap} {L src : Addr} {m : Str → Option Value} {news : List (Addr × Obj)} {c : Sem Value}
    (pre post : List (Addr × Obj)) (n : Nat) (top : Int) {a b : Int} {ta tb : Tok}
    (_F : Fr h₀ L s.heap m) (_N : News h₀ L s.heap news) (_hn : ∀ p ∈ pre ++ (src, PySem.W.listOf #[.int a ta, .int b tb] n) :: post, p ∈ news) (_h0 : 0 < top) (_hb0 : 0 ≤ b) (_hb1 : b < 2147483647)
    (hc : wpAny M A c (TakeEnd h₀ L m pre post src n top s) E s)
    (hk : ∀ (r a b : Int) (t ta tb : Tok) (h : Heap) (tk : Nat), 0 ≤ r → r < top → 0 ≤ b → b < 2147483647 → Fr h₀ L h m → News h₀ L h (pre ++ (src, PySem.W.listOf #[.int a ta, .int b tb] n) :: post) → Q (.int r t) { s with heap := h, toks := tk }) :
    wpAny M A c Q E s := by
  refine wpAny_mono hc (fun v s₂ hq => ?_) fun _ _ h => h
  obtain ⟨r, a, b, t, ta, tb, h, tk, rfl, rfl, h1, h2, h3, h4, F, N⟩ := hq
  exact hk r a b t ta tb h tk h1 h2 h3 h4 F N

/-- the call _law_one(source, things): the two lists lie at the ledger's head, own's two objects and the source behind; an int from 0 to below 1000 -/
theorem one_join {M : Model} {A : Around} {E : Value → Shared → Prop} {Q : Value → Shared → Prop} {s : Shared} {h₀ : Heap} {L src f th : Addr} {m : Str → Option Value} {ot : Obj} {post pre : List (Addr × Obj)} {n : Nat} {a b : Int} {ta tb : Tok}
    (F : Fr h₀ L s.heap m) (N : News h₀ L s.heap ((th, ot) :: (pre ++ (src, PySem.W.listOf #[.int a ta, .int b tb] n) :: post))) (hb0 : 0 ≤ b) (hb1 : b < 2147483647)
    (hc : wpAny M A (call (.ref f) [.ref src, .ref th]) (TakeEnd h₀ L m pre post src n 1000 s) E s)
    (hk : ∀ (r a b : Int) (t ta tb : Tok) (h : Heap) (tk : Nat), 0 ≤ r → r < 1000 → 0 ≤ b → b < 2147483647 → Fr h₀ L h m → News h₀ L h (pre ++ (src, PySem.W.listOf #[.int a ta, .int b tb] n) :: post) → Q (.int r t) { s with heap := h, toks := tk }) :
    wpAny M A (call (.ref f) [.ref src, .ref th]) Q E s :=
  draw_join pre post n 1000 F N (fun _ hp => List.Mem.tail _ hp) (by decide) hb0 hb1 hc hk

theorem draw_end {h₀ h : Heap} {L src : Addr} {m : Str → Option Value} {pre post news : List (Addr × Obj)} {s s' : Shared} {v : Value} {r a b top : Int} {t ta tb : Tok} {n : Nat} {tk : Nat}
    (hv : v = .int r t) (hs : s' = { s with heap := h, toks := tk }) (h0 : 0 ≤ r) (h1 : r < top) (hb0 : 0 ≤ b) (hb1 : b < 2147483647) (F : Fr h₀ L h m) (N : News h₀ L h news)
    (hn : ∀ p ∈ pre ++ (src, PySem.W.listOf #[.int a ta, .int b tb] n) :: post, p ∈ news) : TakeEnd h₀ L m pre post src n top s v s' :=
  ⟨r, a, b, t, ta, tb, h, tk, hv, hs, h0, h1, hb0, hb1, F, fun p hp => N p (hn p hp)⟩

/-- the last three of six objects alone -/
theorem news_last3 {h₀ h : Heap} {L : Addr} {p1 p2 p3 a b c : Addr × Obj} (N : News h₀ L h [p1, p2, p3, a, b, c]) : News h₀ L h [a, b, c] :=
  fun p hp => N p (.tail _ (.tail _ (.tail _ hp)))

theorem menu5 {p q u : Int} {i : Nat} (p0 : 0 ≤ p) (p1 : p < 1000) (q0 : 0 ≤ q) (q1 : q < 1000) (u0 : 0 ≤ u) (u1 : u < 1000) : 0 ≤ [0, 1, p, q, u].getD i 0 ∧ [0, 1, p, q, u].getD i 0 < 1000 := by
  match i with
  | 0 => exact ⟨Int.le_refl 0, (by decide : (0 : Int) < 1000)⟩
  | 1 => exact ⟨(by decide : (0 : Int) ≤ 1), (by decide : (1 : Int) < 1000)⟩
  | 2 => exact ⟨p0, p1⟩
  | 3 => exact ⟨q0, q1⟩
  | 4 => exact ⟨u0, u1⟩
  | _ + 5 => exact ⟨Int.le_refl 0, (by decide : (0 : Int) < 1000)⟩

theorem one_end {h₀ h : Heap} {L src : Addr} {m : Str → Option Value} {pre post news : List (Addr × Obj)} {s s' : Shared} {v : Value} {p q u a b : Int} {i : Nat} {t ta tb : Tok} {n : Nat} {tk : Nat}
    (hv : v = .int ([0, 1, p, q, u].getD i 0) t) (hs : s' = { s with heap := h, toks := tk }) (p0 : 0 ≤ p) (p1 : p < 1000) (q0 : 0 ≤ q) (q1 : q < 1000) (u0 : 0 ≤ u) (u1 : u < 1000) (hb0 : 0 ≤ b) (hb1 : b < 2147483647) (F : Fr h₀ L h m) (N : News h₀ L h news)
    (hn : ∀ p ∈ pre ++ (src, PySem.W.listOf #[.int a ta, .int b tb] n) :: post, p ∈ news) : TakeEnd h₀ L m pre post src n 1000 s v s' :=
  draw_end hv hs (menu5 p0 p1 q0 q1 u0 u1).1 (menu5 p0 p1 q0 q1 u0 u1).2 hb0 hb1 F N hn

/-- what a turn of the second loop changes: the mean, its spread, the count of the measured, the source's two ints, each with its token -/
abbrev Turns : Type := Int × Tok × Int × Tok × Int × Tok × Int × Tok × Int × Tok

section
variable {prog : Program} {w : World} {A : Around} {E : Value → Shared → Prop} {s : Shared} {env : Env} {h₀ : Heap} {z : Str} {body : List Stmt} {Q : Flow → Shared → Prop}
/-- the second loop, by its whole state -/
theorem own_loop {r x C d src : Addr} {bo : Int} {t₀ u₀ v₀ : Tok} {m₀ : Str → Option Value} {e1 e2 e3 : DictEntry} {h4 h5 h6 m0 s0 a0 b0 : Int} {k4 k5 k6 : Value} {tm0 ts0 tq0 ta0 tb0 : Tok} {dn n : Nat}
    (F : Fr h₀ env.locals s.heap m₀) (N : News h₀ env.locals s.heap [(x, instObj C d), (d, PySem.W.dictOf [e1, e2, e3, ⟨h4, k4, .int m0 tm0⟩, ⟨h5, k5, .int s0 ts0⟩, ⟨h6, k6, .int 0 tq0⟩] dn), (src, PySem.W.listOf #[.int a0 ta0, .int b0 tb0] n)]) (hr : IsRange s.heap r 0 bo 1 t₀ u₀ v₀) (hh : A.handled = none)
    (hb : 0 ≤ bo) (hb' : bo < 1000) (hb0 : 0 ≤ b0) (hb1 : b0 < 2147483647)
    (turn : ∀ (m8 : Int) (tm : Tok) (s4 : Int) (ts : Tok) (q : Int) (tq : Tok) (a : Int) (ta : Tok) (b : Int) (tb : Tok) (pre : List Int) (k : Int) (t : Tok) (h : Heap) (tk : Nat) (own : List (Addr × Obj)),
      0 ≤ q → 0 ≤ b → b < 2147483647 → OwnOff own [x, d, src] → Fr h₀ env.locals h (fun y => if y = z then some (.int k t) else m₀ y) → News h₀ env.locals h ([(x, instObj C d), (d, PySem.W.dictOf [e1, e2, e3, ⟨h4, k4, .int m8 tm⟩, ⟨h5, k5, .int s4 ts⟩, ⟨h6, k6, .int q tq⟩] dn), (src, PySem.W.listOf #[.int a ta, .int b tb] n)] ++ own) →
      wpAny (model prog w) A (execs body env) (InvPostN h₀ env.locals (KstS (fun c : Turns => [(x, instObj C d), (d, PySem.W.dictOf [e1, e2, e3, ⟨h4, k4, .int c.1 c.2.1⟩, ⟨h5, k5, .int c.2.2.1 c.2.2.2.1⟩, ⟨h6, k6, .int c.2.2.2.2.1 c.2.2.2.2.2.1⟩] dn), (src, PySem.W.listOf #[.int c.2.2.2.2.2.2.1 c.2.2.2.2.2.2.2.1, .int c.2.2.2.2.2.2.2.2.1 c.2.2.2.2.2.2.2.2.2] n)]) (fun _ => []) (fun _ => True) z [] m₀ (fun (_ : List Int) (c : Turns) => 0 ≤ c.2.2.2.2.1 ∧ 0 ≤ c.2.2.2.2.2.2.2.2.1 ∧ c.2.2.2.2.2.2.2.2.1 < 2147483647) (pre ++ [k])) own [x, d, src] { s with heap := h, toks := tk } Q) E { s with heap := h, toks := tk })
    (done : ∀ (m8 : Int) (tm : Tok) (s4 : Int) (ts : Tok) (q : Int) (tq : Tok) (a : Int) (ta : Tok) (b : Int) (tb : Tok) (u : Str → Option Value) (h : Heap) (tk : Nat),
      Fr h₀ env.locals h (fun y => if y = z then u y else m₀ y) → News h₀ env.locals h [(x, instObj C d), (d, PySem.W.dictOf [e1, e2, e3, ⟨h4, k4, .int m8 tm⟩, ⟨h5, k5, .int s4 ts⟩, ⟨h6, k6, .int q tq⟩] dn), (src, PySem.W.listOf #[.int a ta, .int b tb] n)] → Q .next { s with heap := h, toks := tk }) :
    wpAny (model prog w) A (pyIter (.ref r)) (fun it s₂ => LoopAtV prog w A h₀ env z body Q E it s₂) E s := by
  refine kst_range (fun c : Turns => [(x, instObj C d), (d, PySem.W.dictOf [e1, e2, e3, ⟨h4, k4, .int c.1 c.2.1⟩, ⟨h5, k5, .int c.2.2.1 c.2.2.2.1⟩, ⟨h6, k6, .int c.2.2.2.2.1 c.2.2.2.2.2.1⟩] dn), (src, PySem.W.listOf #[.int c.2.2.2.2.2.2.1 c.2.2.2.2.2.2.2.1, .int c.2.2.2.2.2.2.2.2.1 c.2.2.2.2.2.2.2.2.2] n)]) (fun _ => []) (fun _ => True) [] (fun (_ : List Int) (c : Turns) => 0 ≤ c.2.2.2.2.1 ∧ 0 ≤ c.2.2.2.2.2.2.2.2.1 ∧ c.2.2.2.2.2.2.2.2.1 < 2147483647) (m0, tm0, s0, ts0, 0, tq0, a0, ta0, b0, tb0)
    hh hr (small_one (by omega) (by omega) (by omega) (by omega)) (rangeSize_nat _ _) F N trivial (fun _ h => nomatch h) ⟨Int.le_refl 0, hb0, hb1⟩ ?_ ?_
  · rintro ⟨m8, tm, s4, ts, q, tq, a, ta, b, tb⟩ pre k t u h tk own _ _ ho _ ⟨h1, h2, h3⟩ F' N'
    exact turn m8 tm s4 ts q tq a ta b tb pre k t h tk own h1 h2 h3 ho F' N'
  · rintro ⟨m8, tm, s4, ts, q, tq, a, ta, b, tb⟩ u h tk _ _ F' N'
    exact done m8 tm s4 ts q tq a ta b tb u h tk F' N'
end

/-- a turn's end of the second loop -/
theorem own_end {h₀ h : Heap} {L x C d src : Addr} {z : Str} {m₀ m' : Str → Option Value} {e1 e2 e3 : DictEntry} {h4 h5 h6 m8 s4 q a b : Int} {k4 k5 k6 : Value} {tm ts tq ta tb : Tok} {dn n tk : Nat} {own : List (Addr × Obj)} {pre : List Int} {s₁ s' : Shared}
    (F : Fr h₀ L h m') (N : News h₀ L h ((x, instObj C d) :: (d, PySem.W.dictOf [e1, e2, e3, ⟨h4, k4, .int m8 tm⟩, ⟨h5, k5, .int s4 ts⟩, ⟨h6, k6, .int q tq⟩] dn) :: (src, PySem.W.listOf #[.int a ta, .int b tb] n) :: own))
    (hs : s' = { s₁ with heap := h, toks := tk }) (hq : 0 ≤ q) (hb0 : 0 ≤ b) (hb1 : b < 2147483647) (hr : ∀ y, y ≠ z → m' y = m₀ y) :
    InvEndN h₀ L (KstS (fun c : Turns => [(x, instObj C d), (d, PySem.W.dictOf [e1, e2, e3, ⟨h4, k4, .int c.1 c.2.1⟩, ⟨h5, k5, .int c.2.2.1 c.2.2.2.1⟩, ⟨h6, k6, .int c.2.2.2.2.1 c.2.2.2.2.2.1⟩] dn), (src, PySem.W.listOf #[.int c.2.2.2.2.2.2.1 c.2.2.2.2.2.2.2.1, .int c.2.2.2.2.2.2.2.2.1 c.2.2.2.2.2.2.2.2.2] n)]) (fun _ => []) (fun _ => True) z [] m₀ (fun (_ : List Int) (c : Turns) => 0 ≤ c.2.2.2.2.1 ∧ 0 ≤ c.2.2.2.2.2.2.2.2.1 ∧ c.2.2.2.2.2.2.2.2.1 < 2147483647) pre) own [x, d, src] s₁ s' := by
  subst hs
  exact kst_end (m8, tm, s4, ts, q, tq, a, ta, b, tb) F N
    (fun p hp => by
      simp only [List.mem_cons, List.not_mem_nil, or_false] at hp ⊢
      rcases hp with h | h | h
      · exact .inl h
      · exact .inr (.inl h)
      · exact .inr (.inr (.inl h)))
    (fun p hp => .tail _ (.tail _ (.tail _ hp))) rfl trivial (fun _ hp => nomatch hp) (fun y h1 _ _ => hr y h1) ⟨hq, hb0, hb1⟩

end Mine

open Mine

-- a call of _law_pool
local macro_rules
  | `(tactic| walk_at "call ref cons nil") => `(tactic| (
    plain_pass
    k_here
    (with_reducible show wpAny _ _ (PySem.call (Value.ref 77) _) _ _ _)
    (fail_if_success (with_reducible show wpAny _ _ _ (PoolEnd _ _ _ _) _ _))
    rename Fr _ _ _ _ => pF'
    refine' pool_join pF' ?_ ?_
    rotate_left
    (intro l' a' b' ta' tb' n' h' tk' b0' b1' F' N')
    (try k_sweep)
    rotate_left))
local macro_rules
  | `(tactic| walk_at "PoolEnd") => `(tactic| (k_dflt (refine' pool_end (by with_unfolding_all rfl) rfl (by assumption) (by assumption) (by k_mem))))
-- a call of _law_take
local macro_rules
  | `(tactic| walk_at "call ref cons nil") => `(tactic| (
    plain_pass
    k_here
    (with_reducible show wpAny _ _ (PySem.call (Value.ref 84) _) _ _ _)
    (fail_if_success (with_reducible show wpAny _ _ _ (TakeEnd _ _ _ _ _ _ _ _ _) _ _))
    rename Fr _ _ _ _ => pF'
    rename News _ _ _ _ => pN'
    first
      | (with_unfolding_all refine' take_join [] pF' pN' ?_ ?_ ?_ ?_ ?_)
      | (with_unfolding_all refine' take_join [_] pF' pN' ?_ ?_ ?_ ?_ ?_)
      | (with_unfolding_all refine' take_join [_, _] pF' pN' ?_ ?_ ?_ ?_ ?_)
      | (with_unfolding_all refine' take_join [_, _, _] pF' pN' ?_ ?_ ?_ ?_ ?_)
      | (with_unfolding_all refine' take_join [_, _, _, _] pF' pN' ?_ ?_ ?_ ?_ ?_)
    omega
    assumption
    assumption
    rotate_left
    (intro r' a' b' t' ta' tb' h' tk' r0' r1' b0' b1' F' N')
    (try simp only [List.nil_append, List.cons_append] at N')
    (try k_sweep)
    rotate_left))
local macro_rules
  | `(tactic| walk_at "TakeEnd") => `(tactic| (
    k_dflt (refine' draw_end (by with_unfolding_all rfl) rfl ?k0 ?k1 ?k2 ?k3 (by assumption) (by assumption) (by first | (with_unfolding_all exact fun _ h => h) | (with_unfolding_all exact fun _ h => .tail _ h) | kcj_all))
    (case k0 => k_dflt omega)
    (case k1 => k_dflt omega)
    (case k2 => k_dflt (first | assumption | omega))
    (case k3 => k_dflt (first | assumption | omega))))
local macro_rules
  | `(tactic| walk_at "TakeEnd") => `(tactic| (
    k_dflt (refine' take_end (by with_unfolding_all rfl) rfl ?k1 ?k2 ?k3 (by assumption) (by assumption) (by first | (with_unfolding_all exact fun _ h => h) | (with_unfolding_all exact fun _ h => .tail _ h) | kcj_all))
    (case k1 => omega)
    (case k2 => first | assumption | exact Int.fmod_nonneg_of_pos _ (by decide))
    (case k3 => first | assumption | exact Int.fmod_lt_of_pos _ (by decide))))
local macro_rules
  | `(tactic| mul_fits) => `(tactic| with_unfolding_all exact mul_fmod _ _)
-- the loop over the numbers of ticks
local macro_rules
  | `(tactic| walk_at "exec For Name BinOp cons nil") => `(tactic| (k_here; (rename Fr _ _ _ _ => lF'); (with_unfolding_all refine' For_invVF lF' ?k1 ?k2 ?_; (case k1 => exact rfl); (case k2 => exact rfl); k_whole)))
-- a method called without arguments, by its own rule at once
local macro_rules
  | `(tactic| walk_at "callWith ref cons nil") => `(tactic| (k_here; (with_reducible show wpAny _ _ (callWith _ _ _ (backTo _ (starEach [] _)) []) _ _ _); k_dflt (refine' callWith_K0 ?k1 ?k2 ?_; (case k1 => first | (with_reducible exact Frag.In.keeps (by assumption) (Fr.keep (by assumption))) | k_in); (case k2 => k_is); k_whole)))
-- bounded
local macro_rules
  | `(tactic| walk_at "call ref cons nil") => `(tactic| (
    k_here
    (with_reducible show wpAny _ _ (PySem.call (Value.ref 63) _) _ _ _)
    (fail_if_success (with_reducible show wpAny _ _ (PySem.call (Value.ref 63) [_, Value.int 25 _]) _ _ _))
    (fail_if_success (with_reducible show wpAny _ _ _ (SameEnd _ _ _ _ _ _) _ _))
    rename Fr _ _ _ _ => pF'
    rename News _ _ _ _ => pN'
    first
      | (with_unfolding_all refine' bounded_join [] pF' pN' ?_ ?_)
      | (with_unfolding_all refine' bounded_join [_] pF' pN' ?_ ?_)
      | (with_unfolding_all refine' bounded_join [_, _] pF' pN' ?_ ?_)
      | (with_unfolding_all refine' bounded_join [_, _, _] pF' pN' ?_ ?_)
      | (with_unfolding_all refine' bounded_join [_, _, _, _] pF' pN' ?_ ?_)
    rotate_left
    (intro t' h' tk' F' N')
    (try simp only [List.nil_append, List.cons_append] at N')
    (try k_sweep)
    rotate_left))
-- the middle of three
local macro_rules
  | `(tactic| walk_at "call ref cons nil") => `(tactic| (
    k_here
    (with_reducible show wpAny _ _ (PySem.call (Value.ref 98) _) _ _ _)
    (fail_if_success (with_reducible show wpAny _ _ _ (SameEnd _ _ _ _ _ _) _ _))
    rename Fr _ _ _ _ => pF'
    rename News _ _ _ _ => pN'
    (with_unfolding_all refine' middle_join pF' pN' ?_ ?_)
    rotate_left
    (intro t' h' tk' F' N')
    (try simp only [List.nil_append, List.cons_append] at N')
    (try k_sweep)
    rotate_left))
local macro_rules
  | `(tactic| walk_at "SameEnd") => `(tactic| (
    k_dflt (refine' same_end rfl ?kp (by assumption) (by assumption) ?kn)
    (case kp => k_dflt (first | (refine clamp_lo ?_; omega) | (refine clamp_hi ?_ ?_ <;> omega) | (refine clamp_in ?_ ?_ <;> omega) | (refine clamp_mid (by assumption) (by assumption) ?_; omega)))
    (case kn => k_dflt (first | exact fun _ h => h | exact fun _ h => .tail _ h | exact fun _ h => .tail _ (.tail _ h) | kcj_all))))
-- what is drawn of a list
local macro_rules
  | `(tactic| walk_at "call ref cons nil") => `(tactic| (
    k_here
    (with_reducible show wpAny _ _ (PySem.call (Value.ref 91) _) _ _ _)
    (fail_if_success (with_reducible show wpAny _ _ _ (TakeEnd _ _ _ _ _ _ _ _ _) _ _))
    rename Fr _ _ _ _ => pF'
    rename News _ _ _ _ => pN'
    (with_unfolding_all refine' one_join (pre := [_, _]) pF' pN' ?_ ?_ ?_ ?_)
    assumption
    assumption
    rotate_left
    (intro r' a' b' t' ta' tb' h' tk' r0' r1' b0' b1' F' N')
    (try simp only [List.nil_append, List.cons_append] at N')
    (try k_sweep)
    rotate_left))
-- the second loop
local macro_rules
  | `(tactic| walk_at "exec For Name Call cons nil") => `(tactic| (k_here; (rename Fr _ _ _ _ => lF'); (rename News _ _ _ _ => lN'); (have lM' := news_last3 lN'); (try clear lN'); (with_unfolding_all refine' For_invVF lF' ?k1 ?k2 ?_; (case k1 => exact rfl); (case k2 => exact rfl); k_whole)))
local macro_rules
  | `(tactic| walk_at "call type:range cons nil") => `(tactic| (k_here; (with_reducible show wpAny _ _ (PySem.call _ [Value.int _ _]) _ _ _); (rename Fr _ _ _ _ => F'); (rename News _ _ _ _ => N'); (with_unfolding_all refine range1_rows F' N' ?_); intro _ _ _ _ _ _ _ _ _))
local macro_rules
  | `(tactic| walk_at "pyIter ref") => `(tactic| (
    k_here
    (with_reducible show wpAny _ _ (pyIter (Value.ref _)) (fun it s₂ => LoopAtV _ _ _ _ _ _ _ _ _ it s₂) _ _)
    rename Fr _ _ _ _ => lF'
    rename News _ _ _ _ => lN'
    rename IsRange _ _ _ _ _ _ _ _ => rgX
    (with_unfolding_all refine' own_loop lF' lN' rgX (by rfl) ?k1 ?k2 ?k3 ?k4 ?_ ?_)
    (case k1 => k_dflt omega)
    (case k2 => k_dflt omega)
    (case k3 => k_dflt omega)
    (case k4 => k_dflt omega)
    rotate_left
    (intro m8' tm' s4' ts' q' tq' a' ta' b' tb' u' h' tk' F' N')
    (try clear lF' lN')
    (try k_fold)
    rotate_left
    (intro m8' tm' s4' ts' q' tq' a' ta' b' tb' pre' k' t' h' tk' own' q0' b0' b1' off' F' N')
    (try simp only [List.nil_append, List.cons_append] at N')
    (try clear lF' lN')
    (try k_fold)))
local macro_rules
  | `(tactic| walk_at "TakeEnd") => `(tactic| (
    (with_reducible show TakeEnd _ _ _ _ _ _ _ _ _ (Value.int (List.getD _ _ _) _) _)
    k_dflt (refine' one_end rfl rfl ?k0 ?k1 ?k2 ?k3 ?k4 ?k5 ?k6 ?k7 (by assumption) (by assumption) (by first | (with_unfolding_all exact fun _ h => .tail _ h) | kcj_all))
    (case k0 => k_dflt omega)
    (case k1 => k_dflt omega)
    (case k2 => k_dflt omega)
    (case k3 => k_dflt omega)
    (case k4 => k_dflt omega)
    (case k5 => k_dflt omega)
    (case k6 => k_dflt omega)
    (case k7 => k_dflt omega)))
-- a branch that the facts decide
local macro_rules
  | `(tactic| walk_at "ite") => `(tactic| (k_here; k_openite; k_spoken; first
    | (refine ite_neg (by ((simp only [decide_eq_true_eq, beq_iff_eq, bne_iff_ne, ne_eq, Bool.not_eq_true', decide_eq_false_iff_not, Decidable.not_not]); omega)) ?_; walk_say "OMEGA")
    | (refine ite_pos (by ((simp only [decide_eq_true_eq, beq_iff_eq, bne_iff_ne, ne_eq, Bool.not_eq_true', decide_eq_false_iff_not, Decidable.not_not]); omega)) ?_; walk_say "OMEGA")))
-- ends of our own are closed by their own lines, ahead of the library's closers
local macro_rules
  | `(tactic| kc_close) => `(tactic| ((first | (with_reducible show SameEnd _ _ _ _ _ _ _ _) | (with_reducible show TakeEnd _ _ _ _ _ _ _ _ _ _ _) | (with_reducible show PoolEnd _ _ _ _ _ _) | (with_reducible show InvEndN _ _ _ _ _ _ _)); walk1))
-- a turn's end of the second loop
local macro_rules
  | `(tactic| walk_at "InvEndN") => `(tactic| (k_dflt (refine' own_end ?F ?N rfl ?q ?b0 ?b1 ?r; (case F => assumption); (case N => assumption); (case q => omega); (case b0 => omega); (case b1 => omega); (case r => exact fun y h => if_neg h))))

set_option maxRecDepth 100000 in
set_option maxHeartbeats 8000000 in
theorem PySem.Challenge.cw_xw0324_01_holds : PySem.Challenge.rw_xw0324_01.Holds := by
  k_with "pyIter ref" => (k_of "ticks" => k_search (fun _ => True))
  open_k
