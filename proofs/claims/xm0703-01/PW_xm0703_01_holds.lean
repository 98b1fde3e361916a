import PyProof.Rows.All
import Wide.All
import OpenK.AllK
import Wide.FinOn
import PySem.Challenge.RW_xm0703_01
open PySem PySem.W PySem.Calls PySem.Spec PyProof.Rows
set_option maxRecDepth 100000
set_option Elab.async false
namespace Mine
abbrev Led := List (Addr × Obj)

/-- A call of `f` with `vs`, from any frame of any def with `d` frames of room, hands back the bool `r`; the ledger stands. -/
def CallsB (prog : Program) (w : World) (K : Frag) (p : Program) (loose : List Str) (mean : ExcName → Option Value) (mg mb : Str → Option Value) (f : Addr) (d : Nat) (news : Led) (vs : List Value) (r : Bool) : Prop :=
  ∀ (dp un : Nat) (gd : Option (List Code)) (cn : Str) (cs : Scope) (a : Addr) (ccd : Value) (cl : List (Str × Addr)) (outer : List Env) (A₀ : Around) (base h₀ : Heap) (L : Addr) (m : Str → Option Value) (s : Shared) (Q E : Value → Shared → Prop),
    Below A₀ base outer h₀ → Fr h₀ L s.heap m → K.In h₀ → News h₀ L s.heap news → Top p loose mean mg mb h₀ → cs.kind = .function → dp + d < recursionLimit → un + 8 * d < cLine →
    (∀ (h' : Heap) (tk' : Nat), Fr h₀ L h' m → News h₀ L h' news → Q (.bool r) { s with heap := h', toks := tk' }) →
    wpAny (model prog w) (ktrTop dp un gd cn cs L a ccd cl outer) (call (.ref f) vs) Q E s

theorem CallsB.use {prog : Program} {w : World} {K : Frag} {p : Program} {loose : List Str} {mean : ExcName → Option Value} {mg mb : Str → Option Value} {f : Addr} {d : Nat} {news : Led} {vs : List Value} {r : Bool}
    {dp un : Nat} {gd : Option (List Code)} {cn : Str} {cs : Scope} {a : Addr} {ccd : Value} {cl : List (Str × Addr)} {outer : List Env} {A₀ : Around} {base h₀ : Heap} {L : Addr} {m : Str → Option Value} {s : Shared} {Q E : Value → Shared → Prop}
    (B : Below A₀ base outer h₀) (F : Fr h₀ L s.heap m) (X : K.In h₀) (N : News h₀ L s.heap news) (T : Top p loose mean mg mb h₀) (hk : cs.kind = .function) (C : CallsB prog w K p loose mean mg mb f d news vs r)
    (hd : dp + d < recursionLimit) (hu : un + 8 * d < cLine)
    (ret : ∀ (h' : Heap) (tk' : Nat), Fr h₀ L h' m → News h₀ L h' news → Q (.bool r) { s with heap := h', toks := tk' }) :
    wpAny (model prog w) (ktrTop dp un gd cn cs L a ccd cl outer) (call (.ref f) vs) Q E s :=
  C _ _ _ _ _ _ _ _ _ _ _ _ _ _ _ _ _ B F X N T hk hd hu ret

theorem retB {h₀ h' : Heap} {L : Addr} {m : Str → Option Value} {news : Led} {s : Shared} {Q : Value → Shared → Prop} {r r' : Bool} {tk' : Nat}
    (hret : ∀ (h' : Heap) (tk' : Nat), Fr h₀ L h' m → News h₀ L h' news → Q (.bool r) { s with heap := h', toks := tk' }) (F : Fr h₀ L h' m) (N : News h₀ L h' news) (e : r' = r) : Q (.bool r') { s with heap := h', toks := tk' } := by
  subst e
  exact hret h' tk' F N
theorem News.sub {h₀ h : Heap} {L : Addr} {news news' : Led} (N : News h₀ L h news') (hs : ∀ p ∈ news, p ∈ news') : News h₀ L h news := fun p hp => N p (hs p hp)

def cmpF (c a b : Int) : Bool :=
  if c = 80 then decide (a < b) else if c = 81 then decide (a ≤ b) else if c = 82 then decide (b < a) else if c = 83 then decide (b ≤ a)
  else if c = 84 then decide (a = b) else if c = 85 then decide (a ≠ b) else if c = 90 then (decide (a ≠ 0) && decide (b ≠ 0)) else (decide (a ≠ 0) || decide (b ≠ 0))

def Small (a : Int) : Prop := -2000000000000000000000000000000 ≤ a ∧ a ≤ 2000000000000000000000000000000

theorem pow30 {prog : Program} {w : World} {A : Around} {E : Value → Shared → Prop} {s : Shared} {t u : Tok} {Q : Value → Shared → Prop} (h : Q (.int 1000000000000000000000000000000 s.toks) { s with toks := s.toks + 1 }) :
    wpAny (model prog w) A (binaryOp .Pow (.int 10 t) (.int 30 u)) Q E s := by
  refine PyProof.Rows.pow_int_small (by decide) (by decide) (by decide) ?_
  have e : (10 : Int) ^ (30 : Int).toNat = 1000000000000000000000000000000 := by decide
  rw [e]
  exact h
theorem small7 : Small 7 := by unfold Small; omega
theorem smallMul {a b : Int} (ha : Small a) (hb : Small b) : IntMulOk a b := by
  unfold Small at ha hb
  refine PyProof.Rows.mulOk_of_bits (m := 128) (n := 128) (PySem.intBits_le_iff.mpr ?_) (PySem.intBits_le_iff.mpr ?_) (by decide)
  · have h : (2:Nat) ^ 128 = 340282366920938463463374607431768211456 := by decide
    rw [h]; omega
  · have h : (2:Nat) ^ 128 = 340282366920938463463374607431768211456 := by decide
    rw [h]; omega

def Codes : List Int := [80, 81, 82, 83, 84, 85, 90, 91, 0, 86, 999]

theorem cmp80 {c a b : Int} (h : c = 80) : decide (a < b) = cmpF c a b := by subst h; simp [cmpF]
theorem cmp81 {c a b : Int} (h : c = 81) : decide (a ≤ b) = cmpF c a b := by subst h; simp [cmpF]
theorem cmp82 {c a b : Int} (h : c = 82) : decide (b < a) = cmpF c a b := by subst h; simp [cmpF]
theorem cmp83 {c a b : Int} (h : c = 83) : decide (b ≤ a) = cmpF c a b := by subst h; simp [cmpF]
theorem cmp84 {c a b : Int} (h : c = 84) : (a == b) = cmpF c a b := by subst h; by_cases e : a = b <;> simp [cmpF, e]
theorem cmp85 {c a b : Int} (h : c = 85) : (a != b) = cmpF c a b := by subst h; by_cases e : a = b <;> simp [cmpF, e]
theorem cmp90a {c a b : Int} (h : c = 90) (ha : a ≠ 0) : (b != 0) = cmpF c a b := by subst h; by_cases e : b = 0 <;> simp [cmpF, e, ha]
theorem cmp90b {c a b : Int} (h : c = 90) (ha : a = 0) : (a != 0) = cmpF c a b := by subst h; subst ha; simp [cmpF]
theorem cmpElseA {c a b : Int} (h0 : c ≠ 80) (h1 : c ≠ 81) (h2 : c ≠ 82) (h3 : c ≠ 83) (h4 : c ≠ 84) (h5 : c ≠ 85) (h6 : c ≠ 90) (ha : a ≠ 0) : (a != 0) = cmpF c a b := by simp [cmpF, h0, h1, h2, h3, h4, h5, h6, ha]
theorem cmpElseB {c a b : Int} (h0 : c ≠ 80) (h1 : c ≠ 81) (h2 : c ≠ 82) (h3 : c ≠ 83) (h4 : c ≠ 84) (h5 : c ≠ 85) (h6 : c ≠ 90) (ha : a = 0) : (b != 0) = cmpF c a b := by
  by_cases e : b = 0 <;> simp [cmpF, h0, h1, h2, h3, h4, h5, h6, ha, e]

theorem due80 (a b : Int) : ([-1].any fun x => x == (if decide (b < a) = true then (1 : Int) else 0) - if decide (a < b) = true then 1 else 0) = cmpF 80 a b := by
  by_cases h1 : a < b <;> by_cases h2 : b < a <;> simp [cmpF, h1, h2] <;> omega
theorem due81 (a b : Int) : ([-1, 0].any fun x => x == (if decide (b < a) = true then (1 : Int) else 0) - if decide (a < b) = true then 1 else 0) = cmpF 81 a b := by
  by_cases h1 : a < b <;> by_cases h2 : b < a <;> simp [cmpF, h1, h2] <;> omega
theorem due82 (a b : Int) : ([1].any fun x => x == (if decide (b < a) = true then (1 : Int) else 0) - if decide (a < b) = true then 1 else 0) = cmpF 82 a b := by
  by_cases h1 : a < b <;> by_cases h2 : b < a <;> simp [cmpF, h1, h2] <;> omega
theorem due83 (a b : Int) : ([0, 1].any fun x => x == (if decide (b < a) = true then (1 : Int) else 0) - if decide (a < b) = true then 1 else 0) = cmpF 83 a b := by
  by_cases h1 : a < b <;> by_cases h2 : b < a <;> simp [cmpF, h1, h2] <;> omega
theorem due84 (a b : Int) : ([0].any fun x => x == (if decide (b < a) = true then (1 : Int) else 0) - if decide (a < b) = true then 1 else 0) = cmpF 84 a b := by
  by_cases h1 : a < b <;> by_cases h2 : b < a <;> simp [cmpF, h1, h2] <;> omega
theorem due85 (a b : Int) : ([-1, 1].any fun x => x == (if decide (b < a) = true then (1 : Int) else 0) - if decide (a < b) = true then 1 else 0) = cmpF 85 a b := by
  by_cases h1 : a < b <;> by_cases h2 : b < a <;> simp [cmpF, h1, h2] <;> omega

theorem due90 (a b : Int) : (a * b != 0) = cmpF 90 a b := by
  have h : (a * b = 0) ↔ (a = 0 ∨ b = 0) := Int.mul_eq_zero
  by_cases h1 : a = 0 <;> by_cases h2 : b = 0 <;> simp [cmpF, h, h1, h2]
theorem sqPos {a : Int} (h : a ≠ 0) : 0 < a * a := by
  rcases Int.lt_or_gt_of_ne h with h | h
  · exact Int.mul_pos_of_neg_of_neg h h
  · exact Int.mul_pos h h
theorem sqNonneg (a : Int) : 0 ≤ a * a := by
  by_cases h : a = 0
  · subst h; decide
  · exact Int.le_of_lt (sqPos h)
theorem dueSq (c a b : Int) (hc : c ∈ [(91 : Int), 0, 86, 999]) : decide (0 < a * a + b * b) = cmpF c a b := by
  have e : cmpF c a b = (decide (a ≠ 0) || decide (b ≠ 0)) := by
    simp only [List.mem_cons, List.not_mem_nil, or_false] at hc
    rcases hc with rfl | rfl | rfl | rfl <;> simp [cmpF]
  rw [e]
  have qa := sqNonneg a
  have qb := sqNonneg b
  by_cases h1 : a = 0
  · by_cases h2 : b = 0
    · subst h1; subst h2; decide
    · have := sqPos h2
      simp [h2]; omega
  · have := sqPos h1
    simp [h1]; omega

section
variable {prog : Program} {w : World} {A : Around} {E : Value → Shared → Prop} {s : Shared} {env : Env} {h₀ : Heap} {x : Str} {body : List Stmt} {Q : Flow → Shared → Prop}
/-- the end of a turn that leaves all as it was -/
def ScanEnd (h₀ : Heap) (L : Addr) (x : Str) (v : Value) (m₀ : Str → Option Value) (led : Led) (s₁ s₂ : Shared) : Prop :=
  ∃ h' tk', s₂ = { s₁ with heap := h', toks := tk' } ∧ Fr h₀ L h' (fun y => if y = x then some v else m₀ y) ∧ News h₀ L h' led
def ScanPost (h₀ : Heap) (L : Addr) (x : Str) (v : Value) (m₀ : Str → Option Value) (led : Led) (s₁ : Shared) (Q : Flow → Shared → Prop) (f : Flow) (s₂ : Shared) : Prop :=
  match f with
  | .ret v => Q (.ret v) s₂
  | .brk => Q .next s₂
  | _ => ScanEnd h₀ L x v m₀ led s₁ s₂
theorem scanEnd {L : Addr} {v : Value} {m₀ : Str → Option Value} {led led' : Led} {s₁ : Shared} {h' : Heap} {tk' : Nat} (F : Fr h₀ L h' (fun y => if y = x then some v else m₀ y)) (N : News h₀ L h' led') (hs : ∀ p ∈ led, p ∈ led') :
    ScanPost h₀ L x v m₀ led s₁ Q .next { s₁ with heap := h', toks := tk' } := ⟨h', tk', rfl, F, News.sub N hs⟩

/-- A for over a written list of ints whose turns change nothing. -/
theorem scan {l : Addr} {vs : List Value} {ns : List Int} {nn : Nat} {m₀ : Str → Option Value} {news : Led}
    (hh : A.handled = none) (hl : (l, listOf vs.toArray nn) ∈ news) (hi : IntsAre vs ns) (F : Fr h₀ env.locals s.heap m₀) (N : News h₀ env.locals s.heap news)
    (turn : ∀ n t h tk own, n ∈ ns → Fr h₀ env.locals h (fun y => if y = x then some (.int n t) else m₀ y) → News h₀ env.locals h (news ++ own) →
      wpAny (model prog w) A (execs body env) (ScanPost h₀ env.locals x (.int n t) m₀ (news ++ own) { s with heap := h, toks := tk } Q) E { s with heap := h, toks := tk })
    (done : ∀ (u : Str → Option Value) h tk, Fr h₀ env.locals h (fun y => if y = x then u y else m₀ y) → News h₀ env.locals h news → Q .next { s with heap := h, toks := tk }) :
    wpAny (model prog w) A (pyIter (.ref l)) (fun it s₂ => LoopAtV prog w A h₀ env x body Q E it s₂) E s := by
  refine iter_invNL (fun _ m nx => nx = news ∧ ∀ z, z ≠ x → m z = m₀ z) hh hl hi F N ⟨rfl, fun _ _ => rfl⟩ ?_ ?_
  · rintro i n t m₁ news₁ h tk own hn _ hoff hmem ⟨rfl, hm⟩ F₁ N₁
    have em : (fun y => if y = x then some (Value.int n t) else m₁ y) = fun y => if y = x then some (Value.int n t) else m₀ y := by
      funext y
      by_cases hy : y = x
      · rw [if_pos hy, if_pos hy]
      · rw [if_neg hy, if_neg hy, hm y hy]
    rw [em] at F₁
    refine wpAny_mono (turn n t h tk own (List.mem_of_getElem? hn) F₁ N₁) (fun f s₂ p => ?_) fun _ _ e => e
    have fin : ScanEnd h₀ env.locals x (.int n t) m₀ (news₁ ++ own) { s with heap := h, toks := tk } s₂ →
        InvEndN h₀ env.locals (fun m' nx => (l, listOf vs.toArray nn) ∈ nx ∧ nx = news₁ ∧ ∀ z, z ≠ x → m' z = m₀ z) own (news₁.map (·.1)) { s with heap := h, toks := tk } s₂ := by
      rintro ⟨h', tk', e, F', N'⟩
      refine ⟨h', tk', _, _, news₁, e, F', N', fun p hp => List.mem_append_left _ hp, fun p hp => List.mem_append_right _ hp, rfl, hmem, rfl, fun z hz => if_neg hz⟩
    cases f with
    | ret v => exact p
    | brk => exact p
    | next => exact fin p
    | cont => exact fin p
  · rintro m₁ news₁ h tk _ ⟨rfl, hm⟩ F₁ N₁
    have em : m₁ = fun y => if y = x then m₁ y else m₀ y := by
      funext y
      by_cases hy : y = x
      · rw [if_pos hy]
      · rw [if_neg hy, hm y hy]
    rw [em] at F₁
    exact done m₁ h tk F₁ N₁
end

theorem neSelf {b : Bool} (h : (b != b) = true) : False := by cases b <;> cases h

theorem fmodBits (e : Int) : Builtin.Int.intBits (e.fmod 2147483647) ≤ 31 := by
  refine PySem.intBits_le_iff.mpr ?_
  have h1 : 0 ≤ e.fmod 2147483647 := Int.fmod_nonneg_of_pos _ (by decide)
  have h2 : e.fmod 2147483647 < 2147483647 := Int.fmod_lt_of_pos _ (by decide)
  have h : (2:Nat) ^ 31 = 2147483648 := by decide
  rw [h]; omega
theorem fmodMul (e : Int) : IntMulOk (e.fmod 2147483647) (e.fmod 2147483647) := PyProof.Rows.mulOk_of_bits (m := 31) (n := 31) (fmodBits e) (fmodBits e) (by decide)

/-- `_law_take` of a pool: a figure below `top`, a pool again -/
def TakeC (prog : Program) (w : World) (K : Frag) (p : Program) (loose : List Str) (mean : ExcName → Option Value) (mg mb : Str → Option Value) : Prop :=
  ∀ (l : Addr) (x y top : Int) (tx ty tt : Tok) (nn : Nat) (own : Led), 0 ≤ x → 0 ≤ y → y < 2147483647 → 1 ≤ top → top ≤ 200 → OwnOff own [l] →
  ∀ (dp un : Nat) (gd : Option (List Code)) (cn : Str) (cs : Scope) (a : Addr) (ccd : Value) (cl : List (Str × Addr)) (outer : List Env) (A₀ : Around) (base h₀ : Heap) (L : Addr) (m : Str → Option Value) (s : Shared) (Q E : Value → Shared → Prop),
    Below A₀ base outer h₀ → Fr h₀ L s.heap m → K.In h₀ → News h₀ L s.heap ((l, listOf #[.int x tx, .int y ty] nn) :: own) → Top p loose mean mg mb h₀ → cs.kind = .function → dp + 1 < recursionLimit → un + 8 < cLine →
    (∀ (x' y' z : Int) (tx' ty' tz : Tok) (nn' : Nat) (h' : Heap) (tk' : Nat), 0 ≤ x' → 0 ≤ y' → y' < 2147483647 → 0 ≤ z → z < top → Fr h₀ L h' m → News h₀ L h' ((l, listOf #[.int x' tx', .int y' ty'] nn') :: own) → Q (.int z tz) { s with heap := h', toks := tk' }) →
    wpAny (model prog w) (ktrTop dp un gd cn cs L a ccd cl outer) (call (.ref 35) [.ref l, .int top tt]) Q E s

theorem useTake {prog : Program} {w : World} {K : Frag} {p : Program} {loose : List Str} {mean : ExcName → Option Value} {mg mb : Str → Option Value} {dp un : Nat} {gd : Option (List Code)} {cn : Str} {cs : Scope} {a : Addr} {ccd : Value} {cl : List (Str × Addr)} {outer : List Env} {A₀ : Around} {base h₀ : Heap} {L : Addr} {m : Str → Option Value} {s : Shared} {Q E : Value → Shared → Prop} {l : Addr} {x y top : Int} {tx ty tt : Tok} {nn : Nat} {own : Led}
    (C : TakeC prog w K p loose mean mg mb) (B : Below A₀ base outer h₀) (F : Fr h₀ L s.heap m) (X : K.In h₀) (N : News h₀ L s.heap ((l, listOf #[.int x tx, .int y ty] nn) :: own)) (T : Top p loose mean mg mb h₀) (hk : cs.kind = .function)
    (hx : 0 ≤ x) (hy : 0 ≤ y) (hyM : y < 2147483647) (ht : 1 ≤ top) (htM : top ≤ 200) (hoff : OwnOff own [l]) (hd : dp + 1 < recursionLimit) (hu : un + 8 < cLine)
    (ret : ∀ (x' y' z : Int) (tx' ty' tz : Tok) (nn' : Nat) (h' : Heap) (tk' : Nat), 0 ≤ x' → 0 ≤ y' → y' < 2147483647 → 0 ≤ z → z < top → Fr h₀ L h' m → News h₀ L h' ((l, listOf #[.int x' tx', .int y' ty'] nn') :: own) → Q (.int z tz) { s with heap := h', toks := tk' }) :
    wpAny (model prog w) (ktrTop dp un gd cn cs L a ccd cl outer) (call (.ref 35) [.ref l, .int top tt]) Q E s :=
  C _ _ _ _ _ _ _ _ _ hx hy hyM ht htM hoff _ _ _ _ _ _ _ _ _ _ _ _ _ _ _ _ _ B F X N T hk hd hu ret

theorem getDMem {ns : List Int} {z : Int} (h0 : 0 ≤ z) (h1 : z < (ns.length : Int)) : ns.getD z.toNat 0 ∈ ns := by
  have h : z.toNat < ns.length := by omega
  rw [List.getD_eq_getElem?_getD, List.getElem?_eq_getElem h]
  exact List.getElem_mem h

/-- `_law_one` of a pool and a list of ints: one of the ints, a pool again -/
def OneC (prog : Program) (w : World) (K : Frag) (p : Program) (loose : List Str) (mean : ExcName → Option Value) (mg mb : Str → Option Value) : Prop :=
  ∀ (l q : Addr) (x y : Int) (tx ty : Tok) (nn nq : Nat) (vs : List Value) (ns : List Int) (own : Led), 0 ≤ x → 0 ≤ y → y < 2147483647 → IntsAre vs ns → 1 ≤ ns.length → ns.length ≤ 16 → OwnOff ((q, listOf vs.toArray nq) :: own) [l] →
  ∀ (dp un : Nat) (gd : Option (List Code)) (cn : Str) (cs : Scope) (a : Addr) (ccd : Value) (cl : List (Str × Addr)) (outer : List Env) (A₀ : Around) (base h₀ : Heap) (L : Addr) (m : Str → Option Value) (s : Shared) (Q E : Value → Shared → Prop),
    Below A₀ base outer h₀ → Fr h₀ L s.heap m → K.In h₀ → News h₀ L s.heap ((l, listOf #[.int x tx, .int y ty] nn) :: (q, listOf vs.toArray nq) :: own) → Top p loose mean mg mb h₀ → cs.kind = .function → dp + 2 < recursionLimit → un + 16 < cLine →
    (∀ (x' y' z : Int) (tx' ty' tz : Tok) (nn' : Nat) (h' : Heap) (tk' : Nat), 0 ≤ x' → 0 ≤ y' → y' < 2147483647 → z ∈ ns → Fr h₀ L h' m → News h₀ L h' ((l, listOf #[.int x' tx', .int y' ty'] nn') :: (q, listOf vs.toArray nq) :: own) → Q (.int z tz) { s with heap := h', toks := tk' }) →
    wpAny (model prog w) (ktrTop dp un gd cn cs L a ccd cl outer) (call (.ref 42) [.ref l, .ref q]) Q E s

theorem useOne {prog : Program} {w : World} {K : Frag} {p : Program} {loose : List Str} {mean : ExcName → Option Value} {mg mb : Str → Option Value} {dp un : Nat} {gd : Option (List Code)} {cn : Str} {cs : Scope} {a : Addr} {ccd : Value} {cl : List (Str × Addr)} {outer : List Env} {A₀ : Around} {base h₀ : Heap} {L : Addr} {m : Str → Option Value} {s : Shared} {Q E : Value → Shared → Prop} {l q : Addr} {x y : Int} {tx ty : Tok} {nn nq : Nat} {vs : List Value} {ns : List Int} {own : Led}
    (C : OneC prog w K p loose mean mg mb) (B : Below A₀ base outer h₀) (F : Fr h₀ L s.heap m) (X : K.In h₀) (N : News h₀ L s.heap ((l, listOf #[.int x tx, .int y ty] nn) :: (q, listOf vs.toArray nq) :: own)) (T : Top p loose mean mg mb h₀) (hk : cs.kind = .function)
    (hx : 0 ≤ x) (hy : 0 ≤ y) (hyM : y < 2147483647) (hi : IntsAre vs ns) (h1 : 1 ≤ ns.length) (h2 : ns.length ≤ 16) (hoff : OwnOff ((q, listOf vs.toArray nq) :: own) [l]) (hd : dp + 2 < recursionLimit) (hu : un + 16 < cLine)
    (ret : ∀ (x' y' z : Int) (tx' ty' tz : Tok) (nn' : Nat) (h' : Heap) (tk' : Nat), 0 ≤ x' → 0 ≤ y' → y' < 2147483647 → z ∈ ns → Fr h₀ L h' m → News h₀ L h' ((l, listOf #[.int x' tx', .int y' ty'] nn') :: (q, listOf vs.toArray nq) :: own) → Q (.int z tz) { s with heap := h', toks := tk' }) :
    wpAny (model prog w) (ktrTop dp un gd cn cs L a ccd cl outer) (call (.ref 42) [.ref l, .ref q]) Q E s :=
  C _ _ _ _ _ _ _ _ _ _ _ hx hy hyM hi h1 h2 hoff _ _ _ _ _ _ _ _ _ _ _ _ _ _ _ _ _ B F X N T hk hd hu ret

theorem atIn {news pre post : Led} {c : Addr × Obj} (e : news = pre ++ c :: post) : ∀ p ∈ c :: (pre ++ post), p ∈ news := by
  subst e
  intro p hp
  rcases List.mem_cons.mp hp with rfl | hp
  · exact List.mem_append_right _ (.head _)
  · rcases List.mem_append.mp hp with hp | hp
    · exact List.mem_append_left _ hp
    · exact List.mem_append_right _ (.tail _ hp)
theorem atOut {pre post : Led} {c : Addr × Obj} : ∀ p ∈ pre ++ c :: post, p ∈ c :: (pre ++ post) := by
  intro p hp
  rcases List.mem_append.mp hp with hp | hp
  · exact .tail _ (List.mem_append_left _ hp)
  · rcases List.mem_cons.mp hp with rfl | hp
    · exact .head _
    · exact .tail _ (List.mem_append_right _ hp)

theorem useTakeAt {prog : Program} {w : World} {K : Frag} {p : Program} {loose : List Str} {mean : ExcName → Option Value} {mg mb : Str → Option Value} {dp un : Nat} {gd : Option (List Code)} {cn : Str} {cs : Scope} {a : Addr} {ccd : Value} {cl : List (Str × Addr)} {outer : List Env} {A₀ : Around} {base h₀ : Heap} {L : Addr} {m : Str → Option Value} {s : Shared} {Q E : Value → Shared → Prop} {l : Addr} {x y top : Int} {tx ty tt : Tok} {nn : Nat} {news : Led} (pre : Led) {post : Led}
    (C : TakeC prog w K p loose mean mg mb) (B : Below A₀ base outer h₀) (F : Fr h₀ L s.heap m) (X : K.In h₀) (N : News h₀ L s.heap news) (T : Top p loose mean mg mb h₀) (hk : cs.kind = .function)
    (e : news = pre ++ (l, listOf #[.int x tx, .int y ty] nn) :: post)
    (hx : 0 ≤ x) (hy : 0 ≤ y) (hyM : y < 2147483647) (ht : 1 ≤ top) (htM : top ≤ 200) (hoff : OwnOff (pre ++ post) [l]) (hd : dp + 1 < recursionLimit) (hu : un + 8 < cLine)
    (ret : ∀ (x' y' z : Int) (tx' ty' tz : Tok) (nn' : Nat) (h' : Heap) (tk' : Nat), 0 ≤ x' → 0 ≤ y' → y' < 2147483647 → 0 ≤ z → z < top → Fr h₀ L h' m → News h₀ L h' (pre ++ (l, listOf #[.int x' tx', .int y' ty'] nn') :: post) → Q (.int z tz) { s with heap := h', toks := tk' }) :
    wpAny (model prog w) (ktrTop dp un gd cn cs L a ccd cl outer) (call (.ref 35) [.ref l, .int top tt]) Q E s :=
  useTake C B F X (News.sub N (atIn e)) T hk hx hy hyM ht htM hoff hd hu fun x' y' z tx' ty' tz nn' h' tk' h1 h2 h3 h4 h5 F' N' => ret x' y' z tx' ty' tz nn' h' tk' h1 h2 h3 h4 h5 F' (News.sub N' atOut)

theorem useOneAt {prog : Program} {w : World} {K : Frag} {p : Program} {loose : List Str} {mean : ExcName → Option Value} {mg mb : Str → Option Value} {dp un : Nat} {gd : Option (List Code)} {cn : Str} {cs : Scope} {a : Addr} {ccd : Value} {cl : List (Str × Addr)} {outer : List Env} {A₀ : Around} {base h₀ : Heap} {L : Addr} {m : Str → Option Value} {s : Shared} {Q E : Value → Shared → Prop} {l q : Addr} {x y : Int} {tx ty : Tok} {nn nq : Nat} {vs : List Value} {ns : List Int} {news : Led} (pre : Led) {post : Led}
    (C : OneC prog w K p loose mean mg mb) (B : Below A₀ base outer h₀) (F : Fr h₀ L s.heap m) (X : K.In h₀) (N : News h₀ L s.heap news) (T : Top p loose mean mg mb h₀) (hk : cs.kind = .function)
    (e : news = pre ++ (l, listOf #[.int x tx, .int y ty] nn) :: post) (hq : (q, listOf vs.toArray nq) ∈ pre ++ post)
    (hx : 0 ≤ x) (hy : 0 ≤ y) (hyM : y < 2147483647) (hi : IntsAre vs ns) (h1 : 1 ≤ ns.length) (h2 : ns.length ≤ 16) (hoff : OwnOff (pre ++ post) [l]) (hd : dp + 2 < recursionLimit) (hu : un + 16 < cLine)
    (ret : ∀ (x' y' z : Int) (tx' ty' tz : Tok) (nn' : Nat) (h' : Heap) (tk' : Nat), 0 ≤ x' → 0 ≤ y' → y' < 2147483647 → z ∈ ns → Fr h₀ L h' m → News h₀ L h' (pre ++ (l, listOf #[.int x' tx', .int y' ty'] nn') :: post) → Q (.int z tz) { s with heap := h', toks := tk' }) :
    wpAny (model prog w) (ktrTop dp un gd cn cs L a ccd cl outer) (call (.ref 42) [.ref l, .ref q]) Q E s := by
  refine useOne (tx := tx) (ty := ty) (nn := nn) (nq := nq) (own := pre ++ post) C B F X (News.sub N ?_) T hk hx hy hyM hi h1 h2 ?_ hd hu fun x' y' z tx' ty' tz nn' h' tk' h1 h2 h3 h4 F' N' => ret x' y' z tx' ty' tz nn' h' tk' h1 h2 h3 h4 F' (News.sub N' fun p hp => ?_)
  · intro p hp
    refine atIn e p ?_
    rcases List.mem_cons.mp hp with rfl | hp
    · exact .head _
    · rcases List.mem_cons.mp hp with rfl | hp
      · exact .tail _ hq
      · exact .tail _ hp
  · intro p hp
    rcases List.mem_cons.mp hp with rfl | hp
    · exact hoff _ hq
    · exact hoff p hp
  · rcases List.mem_cons.mp (atOut p hp) with rfl | hp
    · exact .head _
    · exact .tail _ (.tail _ hp)

theorem offNil {b : Addr} : OwnOff [] [b] := fun _ hp => nomatch hp
theorem offCons {own : Led} {c : Addr × Obj} {b : Addr} (h : c.1 ≠ b) (ho : OwnOff own [b]) : OwnOff (c :: own) [b] := by
  intro p hp d hd
  rcases List.mem_cons.mp hp with rfl | hp
  · rw [List.mem_singleton.mp hd]; exact h
  · exact ho p hp d hd
theorem offSub {own : Led} {bs : List Addr} {b : Addr} (ho : OwnOff own bs) (hb : b ∈ bs) : OwnOff own [b] := fun p hp d hd => by
  rw [List.mem_singleton.mp hd]; exact ho p hp b hb
theorem memBound {ns : List Int} {z : Int} (B : Int) (h : z ∈ ns) (hb : ∀ n ∈ ns, -B ≤ n ∧ n ≤ B) : -B ≤ z ∧ z ≤ B := hb z h

/-- a pool: a state of the loop -/
abbrev St := Int × Int × Tok × Tok × Nat
abbrev poolObj (c : St) : Obj := listOf #[.int c.1 c.2.2.1, .int c.2.1 c.2.2.2.1] c.2.2.2.2
abbrev Fine (c : St) : Prop := 0 ≤ c.1 ∧ 0 ≤ c.2.1 ∧ c.2.1 < 2147483647

section
variable {prog : Program} {w : World} {A : Around} {E : Value → Shared → Prop} {s : Shared} {env : Env} {h₀ : Heap} {x : Str} {body : List Stmt} {Q : Flow → Shared → Prop}
def TurnEnd (h₀ : Heap) (L : Addr) (x : Str) (stored : List Str) (m₀ : Str → Option Value) (l : Addr) (led : Led) (s₁ s₂ : Shared) : Prop :=
  ∃ h' tk' m' c, s₂ = { s₁ with heap := h', toks := tk' } ∧ Fine c ∧ (∀ z, z ≠ x → stored.contains z = false → m' z = m₀ z) ∧ Fr h₀ L h' m' ∧ News h₀ L h' ((l, poolObj c) :: led)
def TurnPost (h₀ : Heap) (L : Addr) (x : Str) (stored : List Str) (m₀ : Str → Option Value) (l : Addr) (led : Led) (s₁ : Shared) (Q : Flow → Shared → Prop) (f : Flow) (s₂ : Shared) : Prop :=
  match f with
  | .ret v => Q (.ret v) s₂
  | .brk => Q .next s₂
  | _ => TurnEnd h₀ L x stored m₀ l led s₁ s₂
theorem turnEnd {L l : Addr} {stored : List Str} {m₀ m' : Str → Option Value} {led led' : Led} {s₁ : Shared} {h' : Heap} {tk' : Nat} (c : St) (F : Fr h₀ L h' m') (N : News h₀ L h' led') (hs : ∀ p ∈ (l, poolObj c) :: led, p ∈ led') (hf : Fine c)
    (hm : ∀ z, z ≠ x → stored.contains z = false → m' z = m₀ z) :
    TurnPost h₀ L x stored m₀ l led s₁ Q .next { s₁ with heap := h', toks := tk' } := ⟨h', tk', m', c, rfl, hf, hm, F, News.sub N hs⟩

/-- The loop over range(6): a pool stays a pool. -/
theorem poolLoop {l r : Addr} {t₀ u₀ v₀ : Tok} {m₀ : Str → Option Value} {rest : Led} (stored : List Str) (c₀ : St)
    (hh : A.handled = none) (hr : IsRange s.heap r 0 6 1 t₀ u₀ v₀) (F : Fr h₀ env.locals s.heap m₀) (N : News h₀ env.locals s.heap ((l, poolObj c₀) :: rest)) (hf : Fine c₀)
    (turn : ∀ (a b : Int) (ta tb : Tok) (nn : Nat) (k : Int) t (u : Str → Option Value) h tk own, 0 ≤ a → 0 ≤ b → b < 2147483647 → OwnOff own (l :: rest.map (·.1)) →
      Fr h₀ env.locals h (fun y => if y = x then some (.int k t) else if stored.contains y then u y else m₀ y) → News h₀ env.locals h ((l, listOf #[.int a ta, .int b tb] nn) :: (rest ++ own)) →
      wpAny (model prog w) A (execs body env) (TurnPost h₀ env.locals x stored m₀ l (rest ++ own) { s with heap := h, toks := tk } Q) E { s with heap := h, toks := tk })
    (done : ∀ (c : St) (u : Str → Option Value) h tk, Fr h₀ env.locals h (fun y => if y = x then u y else if stored.contains y then u y else m₀ y) → News h₀ env.locals h ((l, poolObj c) :: rest) → Q .next { s with heap := h, toks := tk }) :
    wpAny (model prog w) A (pyIter (.ref r)) (fun it s₂ => LoopAtV prog w A h₀ env x body Q E it s₂) E s := by
  refine kst_range (σ := St) (n := 6) (m₀ := m₀) (fun c => (l, poolObj c) :: rest) (fun _ => []) Fine stored (fun _ _ => True) c₀ hh hr (by decide) (by decide) F N hf (fun _ hp => nomatch hp) trivial ?_ ?_
  · intro c pre k t u h tk own _ _ hoff hf' _ F₁ N₁
    refine wpAny_mono (turn c.1 c.2.1 c.2.2.1 c.2.2.2.1 c.2.2.2.2 k t u h tk own hf'.1 hf'.2.1 hf'.2.2 hoff F₁ N₁) (fun f s₂ q => ?_) fun _ _ e => e
    have fin : TurnEnd h₀ env.locals x stored m₀ l (rest ++ own) { s with heap := h, toks := tk } s₂ →
        InvEndN h₀ env.locals (KstS (fun c => (l, poolObj c) :: rest) (fun _ => []) Fine x stored m₀ (fun _ _ => True) (pre ++ [k])) own (((l, poolObj c₀) :: rest).map (·.1)) { s with heap := h, toks := tk } s₂ := by
      rintro ⟨h', tk', m', c', rfl, hf2, hm, F', N'⟩
      refine kst_end c' F' N' (fun q hq => ?_) (fun q hq => .tail _ (List.mem_append_right _ hq)) rfl hf2 (fun _ hp => nomatch hp) (fun z h1 _ h3 => hm z h1 h3) trivial
      rcases List.mem_cons.mp hq with rfl | hq
      · exact .head _
      · exact .tail _ (List.mem_append_left _ hq)
    cases f with
    | ret v => exact q
    | brk => exact q
    | next => exact fin q
    | cont => exact fin q
  · intro c u h tk _ _ F₁ N₁
    exact done c u h tk F₁ N₁
end

theorem offTwo {z a b : Str} (h : [a, b].contains z = false) : z ≠ a ∧ z ≠ b := by
  constructor
  · intro e; subst e; simp at h
  · intro e; subst e; simp at h

/-- `_law_pool` of the script: a new pool -/
def PoolC (prog : Program) (w : World) (K : Frag) (p : Program) (loose : List Str) (mean : ExcName → Option Value) (mg mb : Str → Option Value) : Prop :=
  ∀ (ls : Addr) (vs : List Value) (ns : List Int) (news : Led), IntsAre vs ns → ns.length < 2 ^ 62 →
  ∀ (dp un : Nat) (gd : Option (List Code)) (cn : Str) (cs : Scope) (a : Addr) (ccd : Value) (cl : List (Str × Addr)) (outer : List Env) (A₀ : Around) (base h₀ : Heap) (L : Addr) (m : Str → Option Value) (s : Shared) (Q E : Value → Shared → Prop),
    Below A₀ base outer h₀ → Fr h₀ L s.heap m → K.In h₀ → News h₀ L s.heap news → Top p loose mean mg mb h₀ → cs.kind = .function → base.IsList ls vs.toArray → dp + 1 < recursionLimit → un + 8 < cLine →
    (∀ (l : Addr) (x y : Int) (tx ty : Tok) (nn : Nat) (h' : Heap) (tk' : Nat), 0 ≤ x → 0 ≤ y → y < 2147483647 → (∀ p ∈ news, p.1 < l) → Fr h₀ L h' m → News h₀ L h' ((l, listOf #[.int x tx, .int y ty] nn) :: news) → Q (.ref l) { s with heap := h', toks := tk' }) →
    wpAny (model prog w) (ktrTop dp un gd cn cs L a ccd cl outer) (call (.ref 28) [.ref ls]) Q E s

theorem usePool {prog : Program} {w : World} {K : Frag} {p : Program} {loose : List Str} {mean : ExcName → Option Value} {mg mb : Str → Option Value} {dp un : Nat} {gd : Option (List Code)} {cn : Str} {cs : Scope} {a : Addr} {ccd : Value} {cl : List (Str × Addr)} {outer : List Env} {A₀ : Around} {base h₀ : Heap} {L : Addr} {m : Str → Option Value} {s : Shared} {Q E : Value → Shared → Prop} {ls : Addr} {vs : List Value} {ns : List Int} {news : Led}
    (C : PoolC prog w K p loose mean mg mb) (B : Below A₀ base outer h₀) (F : Fr h₀ L s.heap m) (X : K.In h₀) (N : News h₀ L s.heap news) (T : Top p loose mean mg mb h₀) (hk : cs.kind = .function) (hl : base.IsList ls vs.toArray)
    (hi : IntsAre vs ns) (hfit : ns.length < 2 ^ 62) (hd : dp + 1 < recursionLimit) (hu : un + 8 < cLine)
    (ret : ∀ (l : Addr) (x y : Int) (tx ty : Tok) (nn : Nat) (h' : Heap) (tk' : Nat), 0 ≤ x → 0 ≤ y → y < 2147483647 → (∀ p ∈ news, p.1 < l) → Fr h₀ L h' m → News h₀ L h' ((l, listOf #[.int x tx, .int y ty] nn) :: news) → Q (.ref l) { s with heap := h', toks := tk' }) :
    wpAny (model prog w) (ktrTop dp un gd cn cs L a ccd cl outer) (call (.ref 28) [.ref ls]) Q E s :=
  C _ _ _ _ hi hfit _ _ _ _ _ _ _ _ _ _ _ _ _ _ _ _ _ B F X N T hk hl hd hu ret

def CmpC (prog : Program) (w : World) (K : Frag) (p : Program) (loose : List Str) (mean : ExcName → Option Value) (mg mb : Str → Option Value) : Prop :=
  ∀ (c a b : Int) (tc ta tb : Tok) (news : Led), CallsB prog w K p loose mean mg mb 21 1 news [.int c tc, .int a ta, .int b tb] (cmpF c a b)
def DueC (prog : Program) (w : World) (K : Frag) (p : Program) (loose : List Str) (mean : ExcName → Option Value) (mg mb : Str → Option Value) : Prop :=
  ∀ (c a b : Int) (tc ta tb : Tok) (news : Led), c ∈ Codes → Small a → Small b → CallsB prog w K p loose mean mg mb 49 1 news [.int c tc, .int a ta, .int b tb] (cmpF c a b)
def PairC (prog : Program) (w : World) (K : Frag) (p : Program) (loose : List Str) (mean : ExcName → Option Value) (mg mb : Str → Option Value) : Prop :=
  ∀ (a b : Int) (ta tb : Tok) (news : Led), Small a → Small b → CallsB prog w K p loose mean mg mb 56 2 news [.int a ta, .int b tb] true

theorem useCmp {prog : Program} {w : World} {K : Frag} {p : Program} {loose : List Str} {mean : ExcName → Option Value} {mg mb : Str → Option Value} {dp un : Nat} {gd : Option (List Code)} {cn : Str} {cs : Scope} {a : Addr} {ccd : Value} {cl : List (Str × Addr)} {outer : List Env} {A₀ : Around} {base h₀ : Heap} {L : Addr} {m : Str → Option Value} {s : Shared} {Q E : Value → Shared → Prop} {c b₁ b₂ : Int} {tc t₁ t₂ : Tok} {news : Led}
    (C : CmpC prog w K p loose mean mg mb) (B : Below A₀ base outer h₀) (F : Fr h₀ L s.heap m) (X : K.In h₀) (N : News h₀ L s.heap news) (T : Top p loose mean mg mb h₀) (hk : cs.kind = .function)
     (hd : dp + 1 < recursionLimit) (hu : un + 8 * 1 < cLine)
    (ret : ∀ (h' : Heap) (tk' : Nat), Fr h₀ L h' m → News h₀ L h' news → Q (.bool (cmpF c b₁ b₂)) { s with heap := h', toks := tk' }) :
    wpAny (model prog w) (ktrTop dp un gd cn cs L a ccd cl outer) (call (.ref 21) [.int c tc, .int b₁ t₁, .int b₂ t₂]) Q E s :=
  CallsB.use B F X N T hk (C _ _ _ _ _ _ _) hd hu ret
theorem useDue {prog : Program} {w : World} {K : Frag} {p : Program} {loose : List Str} {mean : ExcName → Option Value} {mg mb : Str → Option Value} {dp un : Nat} {gd : Option (List Code)} {cn : Str} {cs : Scope} {a : Addr} {ccd : Value} {cl : List (Str × Addr)} {outer : List Env} {A₀ : Around} {base h₀ : Heap} {L : Addr} {m : Str → Option Value} {s : Shared} {Q E : Value → Shared → Prop} {c b₁ b₂ : Int} {tc t₁ t₂ : Tok} {news : Led}
    (C : DueC prog w K p loose mean mg mb) (B : Below A₀ base outer h₀) (F : Fr h₀ L s.heap m) (X : K.In h₀) (N : News h₀ L s.heap news) (T : Top p loose mean mg mb h₀) (hk : cs.kind = .function)
    (hc : c ∈ Codes) (h1 : Small b₁) (h2 : Small b₂) (hd : dp + 1 < recursionLimit) (hu : un + 8 * 1 < cLine)
    (ret : ∀ (h' : Heap) (tk' : Nat), Fr h₀ L h' m → News h₀ L h' news → Q (.bool (cmpF c b₁ b₂)) { s with heap := h', toks := tk' }) :
    wpAny (model prog w) (ktrTop dp un gd cn cs L a ccd cl outer) (call (.ref 49) [.int c tc, .int b₁ t₁, .int b₂ t₂]) Q E s :=
  CallsB.use B F X N T hk (C _ _ _ _ _ _ _ hc h1 h2) hd hu ret
theorem usePair {prog : Program} {w : World} {K : Frag} {p : Program} {loose : List Str} {mean : ExcName → Option Value} {mg mb : Str → Option Value} {dp un : Nat} {gd : Option (List Code)} {cn : Str} {cs : Scope} {a : Addr} {ccd : Value} {cl : List (Str × Addr)} {outer : List Env} {A₀ : Around} {base h₀ : Heap} {L : Addr} {m : Str → Option Value} {s : Shared} {Q E : Value → Shared → Prop} {b₁ b₂ : Int} {t₁ t₂ : Tok} {news : Led}
    (C : PairC prog w K p loose mean mg mb) (B : Below A₀ base outer h₀) (F : Fr h₀ L s.heap m) (X : K.In h₀) (N : News h₀ L s.heap news) (T : Top p loose mean mg mb h₀) (hk : cs.kind = .function)
    (h1 : Small b₁) (h2 : Small b₂) (hd : dp + 2 < recursionLimit) (hu : un + 8 * 2 < cLine)
    (ret : ∀ (h' : Heap) (tk' : Nat), Fr h₀ L h' m → News h₀ L h' news → Q (.bool true) { s with heap := h', toks := tk' }) :
    wpAny (model prog w) (ktrTop dp un gd cn cs L a ccd cl outer) (call (.ref 56) [.int b₁ t₁, .int b₂ t₂]) Q E s :=
  CallsB.use B F X N T hk (C _ _ _ _ _ h1 h2) hd hu ret

section
variable {α : Type} {prog : Program} {w : World} {K : Frag} {p : Program} {loose : List Str} {mean : ExcName → Option Value} {mg mb : Str → Option Value} {h h' : Heap} {A : Around} {t : Sem α} {Q : α → Shared → Prop} {E : Value → Shared → Prop} {s : Shared}
theorem cutCmp (_ : K.In h) (_ : Top p loose mean mg mb h') (C : CmpC prog w K p loose mean mg mb) (k : CmpC prog w K p loose mean mg mb → wpAny (model prog w) A t Q E s) : wpAny (model prog w) A t Q E s := k C
theorem cutDue (_ : K.In h) (_ : Top p loose mean mg mb h') (C : DueC prog w K p loose mean mg mb) (k : DueC prog w K p loose mean mg mb → wpAny (model prog w) A t Q E s) : wpAny (model prog w) A t Q E s := k C
theorem cutTake (_ : K.In h) (_ : Top p loose mean mg mb h') (C : TakeC prog w K p loose mean mg mb) (k : TakeC prog w K p loose mean mg mb → wpAny (model prog w) A t Q E s) : wpAny (model prog w) A t Q E s := k C
theorem cutOne (_ : K.In h) (_ : Top p loose mean mg mb h') (C : OneC prog w K p loose mean mg mb) (k : OneC prog w K p loose mean mg mb → wpAny (model prog w) A t Q E s) : wpAny (model prog w) A t Q E s := k C
theorem cutPool (_ : K.In h) (_ : Top p loose mean mg mb h') (C : PoolC prog w K p loose mean mg mb) (k : PoolC prog w K p loose mean mg mb → wpAny (model prog w) A t Q E s) : wpAny (model prog w) A t Q E s := k C
theorem cutPair (_ : K.In h) (_ : Top p loose mean mg mb h') (C : PairC prog w K p loose mean mg mb) (k : PairC prog w K p loose mean mg mb → wpAny (model prog w) A t Q E s) : wpAny (model prog w) A t Q E s := k C
end
end Mine

local macro_rules | `(tactic| walk_at "binaryOp Pow int int") => `(tactic| (with_reducible refine Mine.pow30 ?_))
local macro_rules | `(tactic| walk_at "binaryOp Mult int int") => `(tactic| k_extra "binaryOp Mult int int")
local macro_rules | `(tactic| walk_at "pyIter ref") => `(tactic| k_extra "pyIter ref")
local macro_rules | `(tactic| walk_at "call ref") => `(tactic| k_extra "call ref")

set_option maxHeartbeats 8000000 in
theorem PySem.Challenge.cw_xm0703_01_holds : PySem.Challenge.rw_xm0703_01.Holds := by
  k_with "binaryOp Mult int int" => (k_here; with_reducible refine PyProof.Rows.mul_int ?_ (Mine.smallMul (by with_reducible assumption) (by with_reducible assumption)))
  k_with "binaryOp Mult int int" => (k_here; k_dflt (refine PyProof.Rows.mul_int ?_ (by exact Mine.fmodMul _)))
  k_with "call ref" => ((with_reducible show wpAny _ _ (PySem.call (Value.ref 21) _) _ _ _); k_dflt (refine Mine.useCmp hCmp (by k_asm) (by k_asm) (by k_asm) (by k_asm) (by k_asm) (by first | exact rfl | assumption) (by ktr_room) (by ktr_units) ?_); intro h9 tk9 F9 N9; (try dsimp only))
  k_with "call ref" => ((with_reducible show wpAny _ _ (PySem.call (Value.ref 49) _) _ _ _); k_dflt (refine Mine.useDue hDue (by k_asm) (by k_asm) (by k_asm) (by k_asm) (by k_asm) (by first | exact rfl | assumption) (by with_reducible assumption) (by with_reducible assumption) (by with_reducible assumption) (by ktr_room) (by ktr_units) ?_); intro h9 tk9 F9 N9; (try dsimp only))
  k_with "call ref" => ((with_reducible show wpAny _ _ (PySem.call (Value.ref 56) _) _ _ _); k_dflt (refine Mine.usePair hPair (by k_asm) (by k_asm) (by k_asm) (by k_asm) (by k_asm) (by first | exact rfl | assumption) (by first | exact Mine.small7 | (unfold Mine.Small; omega)) (by first | exact Mine.small7 | (unfold Mine.Small; omega)) (by ktr_room) (by ktr_units) ?_); intro h9 tk9 F9 N9; (try dsimp only))
  k_with "call ref" => ((with_reducible show wpAny _ _ (PySem.call (Value.ref 28) _) _ _ _); k_dflt (refine Mine.usePool hPool (by k_asm) (by k_asm) (by k_asm) (by k_asm) (by k_asm) (by first | exact rfl | assumption) (by k_asm) (by with_reducible assumption) (by omega) (by ktr_room) (by ktr_units) ?_); intro l9 x9 y9 tx9 ty9 nn9 h9 tk9 hx9 hy9 hM9 hl9 F9 N9; (try dsimp only))
  k_with "call ref" => ((with_reducible show wpAny _ _ (PySem.call (Value.ref 35) _) _ _ _); k_dflt (refine Mine.useTakeAt [] hTake (by k_asm) (by k_asm) (by k_asm) (by k_asm) (by k_asm) (by first | exact rfl | assumption) (by exact rfl) (by with_reducible assumption) (by with_reducible assumption) (by with_reducible assumption) (by omega) (by omega) (by repeat (first | with_reducible assumption | assumption | exact Mine.offNil | exact Mine.offSub off9 (.head _) | refine Mine.offCons (by k_ne) ?_)) (by ktr_room) (by ktr_units) ?_); intro x9 y9 z9 tx9 ty9 tz9 nn9 h9 tk9 hx9 hy9 hM9 hz9 hzt9 F9 N9; (try dsimp only [List.nil_append, List.cons_append] at N9); (try dsimp only))
  k_with "call ref" => ((with_reducible show wpAny _ _ (PySem.call (Value.ref 42) _) _ _ _); k_dflt (first
    | refine Mine.useOneAt [_, _] hOne (by k_asm) (by k_asm) (by k_asm) (by k_asm) (by k_asm) (by first | exact rfl | assumption) (by exact rfl) (by k_mem) (by with_reducible assumption) (by with_reducible assumption) (by with_reducible assumption) (by l_ints) (by exact Nat.le_of_ble_eq_true rfl) (by exact Nat.le_of_ble_eq_true rfl) (by repeat (first | with_reducible assumption | assumption | exact Mine.offNil | exact Mine.offSub off9 (.head _) | refine Mine.offCons (by k_ne) ?_)) (by ktr_room) (by ktr_units) ?_
    | refine Mine.useOneAt [_, _, _] hOne (by k_asm) (by k_asm) (by k_asm) (by k_asm) (by k_asm) (by first | exact rfl | assumption) (by exact rfl) (by k_mem) (by with_reducible assumption) (by with_reducible assumption) (by with_reducible assumption) (by l_ints) (by exact Nat.le_of_ble_eq_true rfl) (by exact Nat.le_of_ble_eq_true rfl) (by repeat (first | with_reducible assumption | assumption | exact Mine.offNil | exact Mine.offSub off9 (.head _) | refine Mine.offCons (by k_ne) ?_)) (by ktr_room) (by ktr_units) ?_); intro x9 y9 z9 tx9 ty9 tz9 nn9 h9 tk9 hx9 hy9 hM9 hz9 F9 N9; (try dsimp only [List.nil_append, List.cons_append] at N9); (try dsimp only); first
    | (have q9 := Mine.memBound 1000000000000000000000000000000 hz9 (by intro n9 hn9; simp only [List.mem_cons, List.not_mem_nil, or_false] at hn9; omega); clear hz9)
    | (have q9 := Mine.memBound 1000000000000000000000000000001 hz9 (by intro n9 hn9; simp only [List.mem_cons, List.not_mem_nil, or_false] at hn9; omega); clear hz9))
  k_with "pyIter ref" => (k_here; (rename IsRange _ _ _ _ _ _ _ _ => rg9); (rename Fr _ _ _ _ => lF9); (rename News _ _ _ _ => lN9); k_dflt (refine Mine.poolLoop [Str.ofString "one", Str.ofString "other"] (x9, y9, tx9, ty9, nn9) rfl rg9 lF9 (Mine.News.sub lN9 (Mine.atIn (pre := [_]) (post := []) rfl)) ⟨hx9, hy9, hM9⟩ ?_ ?_); clear lF9 lN9; (all_goals first | intro a9 b9 ta9 tb9 nn9 k9 t9 u9 h9 tk9 own9 ha9 hb9 hM9 off9 F9 N9 | intro c9 u9 h9 tk9 F9 N9); (all_goals (try dsimp only [List.nil_append, List.cons_append] at N9)); (all_goals (try k_fold)))
  k_with "pyIter ref" => (k_here; (rename Fr _ _ _ _ => lF9); (rename News _ _ _ _ => lN9); k_dflt (refine Mine.scan (ns := Mine.Codes) rfl (.head _) (by unfold Mine.Codes; l_ints) lF9 lN9 ?_ ?_); clear lF9 lN9; (all_goals first | intro n9 t9 h9 tk9 own9 hm9 F9 N9 | intro u9 h9 tk9 F9 N9); (all_goals (try k_fold)))
  w_on
  o_law
  k_head
  (case hw => w_witness2)
  w_strict (
    k_go0
    (all_goals try k_fold)
    (rename Frag.In _ _ => mK)
    (rename Top _ _ _ _ _ _ => mT)
    refine Mine.cutCmp mK mT ?cmp ?_
    case cmp =>
      unfold Mine.CmpC Mine.CallsB
      intro c a b tc ta tb news dp un gd cn cs a' ccd cl outer A₀ base h₀ L m s Q E B F X N T hk hd' hu hret
      refine wpAny_call ?_
      k_dflt cell_enter
      k_steps
      all_goals (refine Mine.retB hret (by k_asm) (by k_asm) ?_)
      all_goals first
        | exact Mine.cmp80 (by with_reducible assumption)
        | exact Mine.cmp81 (by with_reducible assumption)
        | exact Mine.cmp82 (by with_reducible assumption)
        | exact Mine.cmp83 (by with_reducible assumption)
        | exact Mine.cmp84 (by with_reducible assumption)
        | exact Mine.cmp85 (by with_reducible assumption)
        | exact Mine.cmp90a (by with_reducible assumption) (by with_reducible assumption)
        | exact Mine.cmp90b (by with_reducible assumption) (by with_reducible assumption)
        | exact Mine.cmpElseA (by with_reducible assumption) (by with_reducible assumption) (by with_reducible assumption) (by with_reducible assumption) (by with_reducible assumption) (by with_reducible assumption) (by with_reducible assumption) (by with_reducible assumption)
        | exact Mine.cmpElseB (by with_reducible assumption) (by with_reducible assumption) (by with_reducible assumption) (by with_reducible assumption) (by with_reducible assumption) (by with_reducible assumption) (by with_reducible assumption) (by with_reducible assumption)
    intro hCmp
    refine Mine.cutDue mK mT ?due ?_
    case due =>
      unfold Mine.DueC Mine.CallsB
      intro c a b tc ta tb news hc hSa hSb dp un gd cn cs a' ccd cl outer A₀ base h₀ L m s Q E B F X N T hk hd' hu hret
      unfold Mine.Codes at hc
      simp only [List.mem_cons, List.not_mem_nil, or_false] at hc
      rcases hc with rfl | rfl | rfl | rfl | rfl | rfl | rfl | rfl | rfl | rfl | rfl
      all_goals (
        refine wpAny_call ?_
        k_dflt cell_enter
        k_steps
        all_goals (refine Mine.retB hret (by k_asm) (Mine.News.sub (by k_asm) (by intro _ h9; simp [h9])) ?_)
        all_goals (first | exact Mine.due80 a b | exact Mine.due81 a b | exact Mine.due82 a b | exact Mine.due83 a b | exact Mine.due84 a b | exact Mine.due85 a b | exact Mine.due90 a b | exact Mine.dueSq _ a b (by decide)))
    intro hDue
    refine Mine.cutPair mK mT ?pair ?_
    case pair =>
      unfold Mine.PairC
      (conv => intro a b ta tb news; unfold Mine.CallsB)
      intro a b ta tb news hSa hSb dp un gd cn cs a' ccd cl outer A₀ base h₀ L m s Q E B F X N T hk hd' hu hret
      refine wpAny_call ?_
      k_dflt cell_enter
      k_steps
      all_goals first
        | exact False.elim (Mine.neSelf (by with_reducible assumption))
        | exact Mine.scanEnd (by k_asm) (by k_asm) (fun _ h9 => h9)
        | exact Mine.retB hret (by k_asm) (Mine.News.sub (by k_asm) (fun _ h9 => .tail _ h9)) rfl
    intro hPair
    clear hCmp hDue
    refine Mine.cutTake mK mT ?take ?_
    case take =>
      unfold Mine.TakeC
      intro l x y top tx ty tt nn own hx hy hyM ht htM hoff dp un gd cn cs a' ccd cl outer A₀ base h₀ L m s Q E B F X N T hk hd' hu hret
      have kMark := kstMark
      refine wpAny_call ?_
      k_dflt cell_enter
      k_steps
      all_goals (refine hret _ _ _ _ _ _ _ _ _ ?_ ?_ ?_ ?_ ?_ (by k_asm) (by k_asm))
      all_goals first
        | exact hx
        | exact hy
        | exact hyM
        | exact Int.fdiv_nonneg hx (by omega)
        | exact Int.fmod_nonneg_of_pos _ (by decide)
        | exact Int.fmod_lt_of_pos _ (by decide)
        | exact Int.fmod_nonneg_of_pos _ (by omega)
        | exact Int.fmod_lt_of_pos _ (by omega)
    intro hTake
    refine Mine.cutOne mK mT ?one ?_
    case one =>
      unfold Mine.OneC
      intro l q x y tx ty nn nq vs ns own hx hy hyM hi h1 h2 hoff dp un gd cn cs a' ccd cl outer A₀ base h₀ L m s Q E B F X N T hk hd' hu hret
      have kMark := kstMark
      refine wpAny_call ?_
      k_dflt cell_enter
      k_steps
      (refine hret _ _ _ _ _ _ _ _ _ ?_ ?_ ?_ (Mine.getDMem ?_ ?_) (by k_asm) (by k_asm)) <;> with_reducible assumption
    intro hOne
    refine Mine.cutPool mK mT ?pool ?_
    case pool =>
      unfold Mine.PoolC
      intro ls vs ns news hi hfit dp un gd cn cs a' ccd cl outer A₀ base h₀ L m s Q E B F X N T hk hl hd' hu hret
      refine wpAny_call ?_
      k_dflt cell_enter
      k_steps
      all_goals (refine hret _ _ _ _ _ _ _ _ ?_ ?_ ?_ ?_ (by k_asm) (by k_asm))
      all_goals first
        | with_reducible assumption
        | exact Int.fmod_nonneg_of_pos _ (by decide)
        | exact Int.fmod_lt_of_pos _ (by decide)
        | omega
    intro hPool
    k_steps
    refine Mine.turnEnd (_, _, _, _, _) (by k_asm) (by k_asm) (List.forall_mem_cons.mpr ⟨by k_mem, fun p9 hp9 => by repeat (first | exact hp9 | refine List.Mem.tail _ ?_)⟩) ⟨by with_reducible assumption, by with_reducible assumption, by with_reducible assumption⟩ ?_
    intro z9 h1 h3
    obtain ⟨h4, h5⟩ := Mine.offTwo h3
    rw [if_neg h5, if_neg h4, if_neg h1, if_neg (by rw [h3]; decide)])
