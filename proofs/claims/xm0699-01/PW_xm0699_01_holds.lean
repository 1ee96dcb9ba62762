import PyProof.Rows.All
import Wide.All
import OpenK.AllK
import Wide.FinOn
import PySem.Challenge.RW_xm0699_01
/-
xm0699-01: the contracts of the text's defs (each a def of its own below, shown inside the theorem by a walk of the def's body),
then the law by the contracts. The plain laws and the loop rules come first.
-/
open PySem PySem.W PyProof.Rows PySem.Calls
set_option Elab.async false
namespace Mine
set_option maxRecDepth 100000
/-- how many ends lie below x -/
def cnt (ns : List Int) (x : Int) : Int := (ns.countP (fun y => decide (y < x)) : Nat)

theorem cnt_nonneg (ns : List Int) (x : Int) : 0 ≤ cnt ns x := Int.natCast_nonneg _
theorem cnt_le (ns : List Int) (x : Int) : cnt ns x ≤ ns.length := by
  unfold cnt
  exact Int.ofNat_le.mpr List.countP_le_length

theorem cnt_cons (n : Int) (ns : List Int) (x : Int) : cnt (n :: ns) x = cnt ns x + (if n < x then 1 else 0) := by
  unfold cnt
  rw [List.countP_cons]
  by_cases h : n < x <;> simp [h]

theorem cnt_zero_of {ns : List Int} {x : Int} (h : ∀ y ∈ ns, ¬ y < x) : cnt ns x = 0 := by
  unfold cnt
  rw [Int.natCast_eq_zero, List.countP_eq_zero]
  intro y hy
  simpa using h y hy

theorem cnt_iff : ∀ {ns : List Int} {x : Int}, ns.Pairwise (· ≤ ·) → ∀ i : Nat, i < ns.length → (ns.getD i 0 < x ↔ (i : Int) < cnt ns x)
  | [], _, _, i, h => absurd h (Nat.not_lt_zero i)
  | n :: ns, x, hs, i, h => by
    rw [List.pairwise_cons] at hs
    rw [cnt_cons]
    by_cases hn : n < x
    · rw [if_pos hn]
      cases i with
      | zero =>
        have := cnt_nonneg ns x
        simp only [List.getD_cons_zero]
        exact ⟨fun _ => by omega, fun _ => hn⟩
      | succ i =>
        simp only [List.getD_cons_succ]
        rw [cnt_iff hs.2 i (by simpa using h)]
        omega
    · rw [if_neg hn]
      have hz : cnt ns x = 0 := cnt_zero_of fun y hy => by have := hs.1 y hy; omega
      rw [hz]
      refine ⟨fun hlt => ?_, fun hlt => absurd hlt (by omega)⟩
      cases i with
      | zero => exact absurd hlt hn
      | succ i =>
        simp only [List.getD_cons_succ] at hlt
        have hi : i < ns.length := by simpa using h
        have hm : ns.getD i 0 ∈ ns := by
          rw [List.getD_eq_getElem?_getD, List.getElem?_eq_getElem hi]
          exact List.getElem_mem hi
        have := hs.1 _ hm
        omega

theorem half_mid {lo hi : Int} (h0 : 0 ≤ lo) (h : lo < hi) : lo ≤ (lo + hi).fdiv 2 ∧ (lo + hi).fdiv 2 < hi := by
  have e := Int.fdiv_eq_ediv_of_nonneg (lo + hi) (by omega : (0 : Int) ≤ 2)
  rw [e]
  omega
theorem ff_start (ns : List Int) (x : Int) : 0 ≤ (0 : Int) ∧ 0 ≤ cnt ns x ∧ cnt ns x ≤ ns.length ∧ (ns.length : Int) ≤ ns.length := ⟨by omega, cnt_nonneg ns x, cnt_le ns x, by omega⟩
theorem ff_yes {ns : List Int} {x lo hi : Int} (hs : ns.Pairwise (· ≤ ·)) (h0 : 0 ≤ lo) (_h1 : lo ≤ cnt ns x) (h2 : cnt ns x ≤ hi) (h3 : hi ≤ ns.length) (h : lo < hi) (hx : ns.getD ((lo + hi).fdiv 2).toNat 0 < x) :
    0 ≤ (lo + hi).fdiv 2 + 1 ∧ (lo + hi).fdiv 2 + 1 ≤ cnt ns x ∧ cnt ns x ≤ hi ∧ hi ≤ ns.length := by
  obtain ⟨a, b⟩ := half_mid h0 h
  have := (cnt_iff hs ((lo + hi).fdiv 2).toNat (by omega)).mp hx
  omega
theorem ff_no {ns : List Int} {x lo hi : Int} (hs : ns.Pairwise (· ≤ ·)) (h0 : 0 ≤ lo) (h1 : lo ≤ cnt ns x) (_h2 : cnt ns x ≤ hi) (h3 : hi ≤ ns.length) (h : lo < hi) (hx : ¬ ns.getD ((lo + hi).fdiv 2).toNat 0 < x) :
    0 ≤ lo ∧ lo ≤ cnt ns x ∧ cnt ns x ≤ (lo + hi).fdiv 2 ∧ (lo + hi).fdiv 2 ≤ ns.length := by
  obtain ⟨a, b⟩ := half_mid h0 h
  have := mt (cnt_iff hs ((lo + hi).fdiv 2).toNat (by omega)).mpr hx
  omega
theorem ff_lessY {lo hi : Int} (h0 : 0 ≤ lo) (h : lo < hi) : (hi - ((lo + hi).fdiv 2 + 1)).toNat < (hi - lo).toNat := by
  obtain ⟨a, b⟩ := half_mid h0 h
  omega
theorem ff_lessN {lo hi : Int} (h0 : 0 ≤ lo) (h : lo < hi) : ((lo + hi).fdiv 2 - lo).toNat < (hi - lo).toNat := by
  obtain ⟨a, b⟩ := half_mid h0 h
  omega
theorem turn_sorted {ns : List Int} {z : Int} (hs : ns.Pairwise (· ≤ ·)) (hle : ∀ y ∈ ns, y ≤ z) : (ns ++ [z]).Pairwise (· ≤ ·) := by
  rw [List.pairwise_append]
  refine ⟨hs, List.pairwise_singleton .., fun y hy x hx => ?_⟩
  rw [List.mem_singleton.mp hx]
  exact hle y hy
theorem turn_le {ns : List Int} {e d pt : Int} (hle : ∀ y ∈ ns, y ≤ e * pt) (hd : 0 ≤ d) (hp : 0 ≤ pt) : ∀ y ∈ ns ++ [e * pt], y ≤ (e + d) * pt := by
  have h1 : e * pt ≤ (e + d) * pt := Int.mul_le_mul_of_nonneg_right (by omega) hp
  intro y hy
  rcases List.mem_append.mp hy with hy | hy
  · exact Int.le_trans (hle y hy) h1
  · rw [List.mem_singleton.mp hy]
    exact h1
theorem steps_of {d : Int} (h : d ∈ ([0, 1, 1, 2, 5] : List Int)) : 0 ≤ d ∧ d ≤ 5 := by
  simp only [List.mem_cons, List.not_mem_nil, or_false] at h
  omega
theorem part_of {d : Int} (h : d ∈ ([1, 1, 10 ^ 25] : List Int)) : 0 ≤ d := by
  simp only [List.mem_cons, List.not_mem_nil, or_false] at h
  rcases h with rfl | rfl | rfl <;> decide
/-- a turn's end: the iterator, the fixed part and the rest of the ledger stand, the turning part is told by J -/
def LpEnd (h₀ : Heap) (L : Addr) (I : Addr) (it : Obj) (fx rest : List (Addr × Obj)) (J : (Str → Option Value) → List (Addr × Obj) → Prop) (s₁ s₂ : Shared) : Prop :=
  ∃ h' tk m' own', s₂ = { s₁ with heap := h', toks := tk } ∧ Fr h₀ L h' m' ∧ News h₀ L h' ((I, it) :: (fx ++ (own' ++ rest))) ∧ (∀ p ∈ own', p.1 ≠ I) ∧ J m' own'
def LpPost (h₀ : Heap) (L : Addr) (I : Addr) (it : Obj) (fx rest : List (Addr × Obj)) (J : (Str → Option Value) → List (Addr × Obj) → Prop) (s₁ : Shared) (Q : Flow → Shared → Prop) (f : Flow) (s₂ : Shared) : Prop :=
  match f with
  | .ret v => Q (.ret v) s₂
  | .brk => Q .next s₂
  | _ => LpEnd h₀ L I it fx rest J s₁ s₂

theorem LpEnd.intro {h₀ : Heap} {L : Addr} {I : Addr} {it : Obj} {fx rest : List (Addr × Obj)} {J : (Str → Option Value) → List (Addr × Obj) → Prop} {s₁ : Shared} {h' : Heap} {tk : Nat} {m' : Str → Option Value} {all : List (Addr × Obj)} (own' : List (Addr × Obj))
    (F : Fr h₀ L h' m') (N : News h₀ L h' all) (hs : ∀ p ∈ (I, it) :: (fx ++ (own' ++ rest)), p ∈ all) (hc : ∀ p ∈ own', p.1 ≠ I) (hJ : J m' own') :
    LpEnd h₀ L I it fx rest J s₁ { s₁ with heap := h', toks := tk } := ⟨h', tk, m', own', rfl, F, fun p hp => N p (hs p hp), hc, hJ⟩

section
variable {prog : Program} {w : World} {A : Around} {E : Value → Shared → Prop} {s : Shared} {env : Env} {h₀ : Heap} {x : Str} {body : List Stmt} {Q : Flow → Shared → Prop}

theorem lp_loop {I : Addr} {fp : List Addr} {n : Nat} {P : Nat → Value → Prop} {St : Nat → Heap → Prop} {m₀ : Str → Option Value} {fx own₀ rest : List (Addr × Obj)} {px : Pos}
    (J : Nat → (Str → Option Value) → List (Addr × Obj) → Prop)
    (W : Walks prog w A I (I :: fp) [I] n P St) (hob : ∀ i h, St i h → ∃ o, h.get? I = some o)
    (hfp : ∀ b ∈ fp, ∃ o, (b, o) ∈ fx) (hI : h₀.get? I = none) (hIL : I ≠ env.locals) (hIfx : ∀ p ∈ fx, p.1 ≠ I) (hIr : ∀ p ∈ rest, p.1 ≠ I)
    (hst : St 0 s.heap) (F : Fr h₀ env.locals s.heap m₀) (N : News h₀ env.locals s.heap (fx ++ (own₀ ++ rest))) (hc : ∀ p ∈ own₀, p.1 ≠ I) (h0 : J 0 m₀ own₀)
    (turn : ∀ i v m own it h tk, i < n → P i v → J i m own → Fr h₀ env.locals h m → News h₀ env.locals h ((I, it) :: (fx ++ (own ++ rest))) →
      wpAny (model prog w) A (storeName env x v) (fun _ s₂ => wpAny (model prog w) A (execs body env) (LpPost h₀ env.locals I it fx rest (J (i + 1)) { s with heap := h, toks := tk } Q) E s₂) E { s with heap := h, toks := tk })
    (done : ∀ m own h tk, J n m own → Fr h₀ env.locals h m → News h₀ env.locals h (fx ++ (own ++ rest)) → Q .next { s with heap := h, toks := tk })
    (hE : PassesOwn (model prog w) A env E) :
    codeAny (model prog w) A (.forLoop (.Name x px) (.ref I) body [] env) (fun r s' => match r with | .ok f => Q f s' | .error e => cameBackBy (model prog w) A env E e s') s := by
  refine codeAny_forLoop
    (fun k s' => ∃ h' tk m' own' i, s' = { s with heap := h', toks := tk } ∧ St i h' ∧ Fr h₀ env.locals h' m' ∧ News h₀ env.locals h' (fx ++ (own' ++ rest)) ∧ (∀ p ∈ own', p.1 ≠ I) ∧ J i m' own' ∧ i ≤ n ∧ k = n + 1 - i) ?_ (n + 1)
    ⟨s.heap, s.toks, m₀, own₀, 0, rfl, hst, F, N, hc, h0, Nat.zero_le _, rfl⟩
  rintro k s' ⟨h', tk, m', own', i, rfl, hst', F', N', hc', hJ, hi, rfl⟩
  have hoff : ∀ p ∈ fx ++ (own' ++ rest), p.1 ≠ I := fun p hp =>
    (List.mem_append.mp hp).elim (hIfx p) fun hp => (List.mem_append.mp hp).elim (hc' p) (hIr p)
  have next : ∀ h₁ : Heap, (∀ b o, b ∉ [I] → h'.get? b = some o → h₁.get? b = some o) → Fr h₀ env.locals h₁ m' ∧ News h₀ env.locals h₁ (fx ++ (own' ++ rest)) := fun h₁ hk₁ =>
    ⟨⟨F'.ns.at' fun o e => hk₁ _ o (fun q => hIL (List.mem_singleton.mp q).symm) e, fun b o e => hk₁ b o (fun q => by rw [List.mem_singleton.mp q, hI] at e; cases e) (F'.keep b o e), F'.above⟩,
      fun p hp => ⟨hk₁ _ _ (fun q => hoff p hp (List.mem_singleton.mp q)) (N' p hp).1, (N' p hp).2⟩⟩
  by_cases hlt : i < n
  · refine W.item i _ _ _ hlt hst' fun v h₁ tk₁ hP hst₁ hk₁ => ?_
    obtain ⟨F₁, N₁⟩ := next h₁ hk₁
    obtain ⟨it, hit⟩ := hob _ _ hst₁
    have NI : News h₀ env.locals h₁ ((I, it) :: (fx ++ (own' ++ rest))) := fun p hp => by
      rcases List.mem_cons.mp hp with rfl | hp
      · exact ⟨hit, hIL, hI⟩
      · exact N₁ p hp
    refine wpAny_assign_Name (wpAny_mono (wpAny_passesOwn hE (wpAny_mono (turn i v m' own' it h₁ tk₁ hlt hP hJ F₁ NI) (fun _ s₂ h₂ => wpAny_passesOwn hE (wpAny_mono h₂ (fun f s₃ h₃ => ?_) fun _ _ e => e)) fun _ _ e => e)) (fun _ _ h => h) fun _ _ e => e)
    have fin : LpEnd h₀ env.locals I it fx rest (J (i + 1)) { s with heap := h₁, toks := tk₁ } s₃ →
        ∃ mm, mm < n + 1 - i ∧ ∃ h' tk m' own' i, s₃ = { s with heap := h', toks := tk } ∧ St i h' ∧ Fr h₀ env.locals h' m' ∧ News h₀ env.locals h' (fx ++ (own' ++ rest)) ∧ (∀ p ∈ own', p.1 ≠ I) ∧ J i m' own' ∧ i ≤ n ∧ mm = n + 1 - i := by
      rintro ⟨h₂, tk₂, m₂, own₂, rfl, F₂, N₂, hc₂, hJ₂⟩
      refine ⟨n + 1 - (i + 1), by omega, h₂, tk₂, m₂, own₂, i + 1, rfl, ?_, F₂, fun p hp => N₂ p (List.mem_cons_of_mem _ hp), hc₂, hJ₂, hlt, rfl⟩
      refine W.frame _ _ _ hst₁ fun b hb o e => ?_
      rcases List.mem_cons.mp hb with rfl | hb
      · have h3 := (N₂ _ (List.mem_cons_self ..)).1
        rw [hit] at e
        cases e
        exact h3
      · obtain ⟨o', ho'⟩ := hfp b hb
        have h3 := (N₂ (b, o') (List.mem_cons_of_mem _ (List.mem_append_left _ ho'))).1
        have h4 := (N₁ (b, o') (List.mem_append_left _ ho')).1
        rw [show h₁.get? b = some o' from h4] at e
        cases e
        exact h3
    cases f with
    | ret v => exact h₃
    | brk => exact h₃
    | next => exact fin h₃
    | cont => exact fin h₃
  · have hin : i = n := by omega
    subst hin
    refine W.done _ _ _ hst' fun h₁ tk₁ hk₁ => wpAny_execs_nil ?_
    obtain ⟨F₁, N₁⟩ := next h₁ hk₁
    exact done m' own' h₁ tk₁ hJ F₁ N₁

/-- a for over a list of the ledger -/
theorem lp_For_list {l : Addr} {vs : List Value} {c : Nat} {m₀ : Str → Option Value} {px pos : Pos} {iter : Expr} (own₀ rest : List (Addr × Obj))
    (J : Nat → (Str → Option Value) → List (Addr × Obj) → Prop) (hh : A.handled = none)
    (he : wpAny (model prog w) A (eval iter env) (fun xv s₁ => xv = .ref l ∧ s₁ = s) E s)
    (F : Fr h₀ env.locals s.heap m₀) (N : News h₀ env.locals s.heap ((l, listOf vs.toArray c) :: (own₀ ++ rest))) (h0 : J 0 m₀ own₀)
    (turn : ∀ i v m own I it h tk, vs[i]? = some v → J i m own → (∀ p ∈ (l, listOf vs.toArray c) :: (own₀ ++ rest), p.1 < I) → Fr h₀ env.locals h m → News h₀ env.locals h ((I, it) :: (l, listOf vs.toArray c) :: (own ++ rest)) →
      wpAny (model prog w) A (storeName env x v) (fun _ s₂ => wpAny (model prog w) A (execs body env) (LpPost h₀ env.locals I it [(l, listOf vs.toArray c)] rest (J (i + 1)) { s with heap := h, toks := tk } Q) E s₂) E { s with heap := h, toks := tk })
    (done : ∀ m own h tk, J vs.length m own → Fr h₀ env.locals h m → News h₀ env.locals h ((l, listOf vs.toArray c) :: (own ++ rest)) → Q .next { s with heap := h, toks := tk })
    (hE : PassesOwn (model prog w) A env E := by passes_own)
    (hs : ∀ x, foldedSetIterable iter env x = pure x := by intro _; rfl) :
    wpAny (model prog w) A (exec (.For (.Name x px) iter body [] pos) env) Q E s := by
  refine wpAny_For (wpAny_mono he (fun xv s₁ h₁ => ?_) fun _ _ e => e) hs
  obtain ⟨rfl, rfl⟩ := h₁
  have hl : s₁.heap.IsList l vs.toArray := ⟨_, (N _ (List.mem_cons_self ..)).1, rfl, c, rfl⟩
  have hr : ∀ p ∈ (l, listOf vs.toArray c) :: (own₀ ++ rest), p.1 < s₁.heap.objs.size := fun p hp => Heap.lt_size (N p hp).1
  have hne : l ≠ s₁.heap.objs.size := Nat.ne_of_lt (hr _ (List.mem_cons_self ..))
  refine wpAny_pyIter_list hl ?_
  have W := Walks.list (prog := prog) (w := w) hh s₁.heap.objs.size l hne vs.toArray
  have hlen : vs.toArray.size = vs.length := by simp
  rw [hlen] at W
  refine lp_loop (s := { s₁ with heap := _ }) (fx := [(l, listOf vs.toArray c)]) (rest := rest) (own₀ := own₀) (m₀ := m₀) J W (fun i h st => let ⟨o, ho, _⟩ := st.1; ⟨o, ho⟩) ?_ (next_is_new F) (fun e => absurd F.ns.lt (e ▸ Nat.lt_irrefl _)) ?_ (fun p hp => Nat.ne_of_lt (hr p (List.mem_cons_of_mem _ (List.mem_append_right _ hp))))
    ⟨⟨_, Heap.get?_push_size _ rfl, rfl, rfl⟩, hl.at fun o e => Heap.get?_push_of_some _ e⟩ (F.push _) (fun p hp => ⟨Heap.get?_push_of_some _ (N p hp).1, (N p hp).2⟩) (fun p hp => Nat.ne_of_lt (hr p (List.mem_cons_of_mem _ (List.mem_append_left _ hp)))) h0 ?_ ?_ hE
  · intro b hb
    rw [List.mem_singleton.mp hb]
    exact ⟨_, List.mem_cons_self ..⟩
  · intro p hp
    rw [List.mem_singleton.mp hp]
    exact hne
  · intro i v m own it h tk hi hP hJ F₁ N₁
    exact turn i v m own _ it h tk (by simpa using hP) hJ hr F₁ N₁
  · intro m own h tk hJ F₁ N₁
    exact done m own h tk hJ F₁ N₁

/-- what a for over a range asks behind its head -/
def LpAt (prog : Program) (w : World) (A : Around) (E : Value → Shared → Prop) (env : Env) (x : Str) (px : Pos) (body : List Stmt) (Q : Flow → Shared → Prop) (it : Value) (s : Shared) : Prop :=
  codeAny (model prog w) A (.forLoop (.Name x px) it body [] env) (fun r s' => match r with | .ok f => Q f s' | .error e => cameBackBy (model prog w) A env E e s') s
theorem lp_For {px pos : Pos} {iter : Expr} (h : wpAny (model prog w) A (eval iter env) (fun xv s₁ => wpAny (model prog w) A (pyIter xv) (LpAt prog w A E env x px body Q) E s₁) E s)
    (hs : ∀ x, foldedSetIterable iter env x = pure x := by intro _; rfl) :
    wpAny (model prog w) A (exec (.For (.Name x px) iter body [] pos) env) Q E s := wpAny_For h hs

/-- a for over a range by ones -/
theorem lp_range {r : Addr} {a₀ b₀ : Int} {t₀ u₀ v₀ : Tok} {n : Nat} {m₀ : Str → Option Value} {px : Pos} (own₀ rest : List (Addr × Obj))
    (J : Nat → (Str → Option Value) → List (Addr × Obj) → Prop) (hh : A.handled = none)
    (hr : IsRange s.heap r a₀ b₀ 1 t₀ u₀ v₀) (hsmall : Builtin.Range.small a₀ b₀ 1 = true) (hn : Builtin.Range.rangeSize a₀ b₀ 1 = (n : Int))
    (F : Fr h₀ env.locals s.heap m₀) (N : News h₀ env.locals s.heap (own₀ ++ rest)) (h0 : J 0 m₀ own₀)
    (turn : ∀ i t m own I it h tk, i < n → J i m own → (∀ p ∈ own₀ ++ rest, p.1 < I) → Fr h₀ env.locals h m → News h₀ env.locals h ((I, it) :: (own ++ rest)) →
      wpAny (model prog w) A (storeName env x (.int (a₀ + (i : Int)) t)) (fun _ s₂ => wpAny (model prog w) A (execs body env) (LpPost h₀ env.locals I it [] rest (J (i + 1)) { s with heap := h, toks := tk } Q) E s₂) E { s with heap := h, toks := tk })
    (done : ∀ m own h tk, J n m own → Fr h₀ env.locals h m → News h₀ env.locals h (own ++ rest) → Q .next { s with heap := h, toks := tk })
    (hE : PassesOwn (model prog w) A env E := by passes_own) :
    wpAny (model prog w) A (pyIter (.ref r)) (LpAt prog w A E env x px body Q) E s := by
  refine wpAny_pyIter_range hr hsmall ?_
  have W : Walks prog w A s.heap.objs.size [s.heap.objs.size] [s.heap.objs.size] n (fun i v => i < n ∧ ∃ t, v = .int (a₀ + i * 1) t)
      (fun i h => IsRangeIter h s.heap.objs.size (a₀ + (i : Nat) * 1) ((n : Int) - (i : Nat)) 1) := (Walks.range hh _ a₀ 1 n).bound
  have hlt : ∀ p ∈ own₀ ++ rest, p.1 < s.heap.objs.size := fun p hp => Heap.lt_size (N p hp).1
  unfold LpAt
  refine lp_loop (s := { s with heap := _ }) (fx := []) (fp := []) (rest := rest) (own₀ := own₀) (m₀ := m₀) J W (fun i h st => ⟨_, st⟩) (fun b hb => nomatch hb) (next_is_new F) (fun e => absurd F.ns.lt (e ▸ Nat.lt_irrefl _)) (fun p hp => nomatch hp) (fun p hp => Nat.ne_of_lt (hlt p (List.mem_append_right _ hp)))
    (by show IsRangeIter _ _ _ _ _; rw [hn]; simpa using Heap.get?_push_size _ rfl) (F.push _) (fun p hp => ⟨Heap.get?_push_of_some _ (N p hp).1, (N p hp).2⟩) (fun p hp => Nat.ne_of_lt (hlt p (List.mem_append_left _ hp))) h0 ?_ ?_ hE
  · rintro i v m own it h tk hi ⟨_, t, rfl⟩ hJ F₁ N₁
    rw [Int.mul_one]
    exact turn i t m own _ it h tk hi hJ hlt F₁ N₁
  · intro m own h tk hJ F₁ N₁
    exact done m own h tk hJ F₁ N₁
end
def J1 (l : Addr) (i : Nat) (m : Str → Option Value) (own : List (Addr × Obj)) : Prop :=
  ∃ q us as c', own = [(q, listOf us.toArray c')] ∧ IntsAre us as ∧ as.length = 3 + 3 * i ∧ m (Str.ofString "asked") = some (.ref q) ∧ m (Str.ofString "ends") = some (.ref l)
theorem fr_asked {m : Str → Option Value} {h₀ h : Heap} {L q l : Addr} (hq : m (Str.ofString "asked") = some (.ref q)) (hl : m (Str.ofString "ends") = some (.ref l)) (F : Fr h₀ L h m) :
    Fr h₀ L h (fun y => if y = Str.ofString "asked" then some (.ref q) else if y = Str.ofString "ends" then some (.ref l) else m y) := by
  have e : (fun y => if y = Str.ofString "asked" then some (.ref q) else if y = Str.ofString "ends" then some (.ref l) else m y) = m := by
    funext y
    by_cases h1 : y = Str.ofString "asked"
    · rw [if_pos h1, h1, hq]
    · rw [if_neg h1]
      by_cases h2 : y = Str.ofString "ends"
      · rw [if_pos h2, h2, hl]
      · rw [if_neg h2]
  rw [e]
  exact F
theorem reorder3 {h₀ h : Heap} {L : Addr} {a b e : Addr × Obj} {r : List (Addr × Obj)} (N : News h₀ L h (a :: b :: e :: r)) : News h₀ L h (e :: ([a] ++ (b :: r))) := fun p hp => N p (by
  simp only [List.cons_append, List.nil_append, List.mem_cons] at hp ⊢
  rcases hp with h | h | h | h <;> simp [h])
theorem reorder3' {h₀ h : Heap} {L : Addr} {a b e : Addr × Obj} {r : List (Addr × Obj)} (N : News h₀ L h (a :: b :: e :: r)) : News h₀ L h (b :: ([e] ++ (a :: r))) := fun p hp => N p (by
  simp only [List.cons_append, List.nil_append, List.mem_cons] at hp ⊢
  rcases hp with h | h | h | h <;> simp [h])
def J2 (l L : Addr) (_ : Nat) (m : Str → Option Value) (own : List (Addr × Obj)) : Prop :=
  ∃ (o : Obj) (v : Option Value), own = [(L + 1, o)] ∧ o.data = .cell v ∧ m (Str.ofString "ends") = some (.ref l)
theorem fr_ends {m : Str → Option Value} {h₀ h : Heap} {L l : Addr} (hl : m (Str.ofString "ends") = some (.ref l)) (F : Fr h₀ L h m) :
    Fr h₀ L h (fun y => if y = Str.ofString "ends" then some (.ref l) else m y) := by
  have e : (fun y => if y = Str.ofString "ends" then some (.ref l) else m y) = m := by
    funext y
    by_cases h1 : y = Str.ofString "ends"
    · rw [if_pos h1, h1, hl]
    · rw [if_neg h1]
  rw [e]
  exact F
theorem cellFirst {h₀ h : Heap} {L : Addr} {a b e : Addr × Obj} {r : List (Addr × Obj)} (N : News h₀ L h (a :: b :: e :: r)) : News h₀ L h (e :: a :: b :: r) := fun p hp => N p (by
  simp only [List.mem_cons] at hp ⊢
  rcases hp with h | h | h | h <;> simp [h])
theorem ledLast {h₀ h : Heap} {L : Addr} {a b d e : Addr × Obj} {r : List (Addr × Obj)} (N : News h₀ L h (a :: b :: d :: e :: r)) : News h₀ L h (e :: a :: b :: d :: r) := fun p hp => N p (by
  simp only [List.mem_cons] at hp ⊢
  rcases hp with h | h | h | h | h <;> simp [h])
theorem len_filter {ys : List Value} {ns : List Int} {x : Int} (h : CarriedAll ys (List.map PyData.int (List.filter (fun a => decide (a < x)) ns))) : ((ys.toArray.size : Nat) : Int) = cnt ns x := by
  have h1 := (IntsAre.ofCarried h).length
  rw [List.size_toArray, h1, cnt, List.countP_eq_length_filter]
theorem fmod_lo {x y : Int} (h : 0 < y) : 0 ≤ x.fmod y := Int.fmod_nonneg_of_pos x h
theorem fmod_hi {x y : Int} (h : 0 < y) : x.fmod y < y := Int.fmod_lt_of_pos x h
theorem fdiv_lo {x y : Int} (h : 0 ≤ x) (hy : 0 ≤ y) : 0 ≤ x.fdiv y := Int.fdiv_nonneg h hy
theorem mod_bits (y : Int) : Builtin.Int.intBits (y.fmod 2147483647) ≤ 64 := by
  have h1 := fmod_lo (x := y) (y := 2147483647) (by decide)
  have h2 := fmod_hi (x := y) (y := 2147483647) (by decide)
  exact PySem.intBits_le_64 (by omega) (by omega)
theorem mod_mul (a y z : Int) : PySem.IntMulOk ([a, y.fmod 2147483647].getD (Int.toNat 1) 0) z := PySem.IntMulOk.of_left (mod_bits y)
theorem swap2 {h₀ h : Heap} {L : Addr} {a b : Addr × Obj} {r : List (Addr × Obj)} (N : News h₀ L h (a :: b :: r)) : News h₀ L h (b :: a :: r) := fun p hp => N p (by
  simp only [List.mem_cons] at hp ⊢
  rcases hp with h | h | h <;> simp [h])
theorem getD_mem {ns : List Int} {k : Nat} (h : k < ns.length) : ns.getD k 0 ∈ ns := by
  rw [List.getD_eq_getElem?_getD, List.getElem?_eq_getElem h]
  exact List.getElem_mem h
theorem ledEnds {h₀ h : Heap} {L : Addr} {a b d e : Addr × Obj} {r : List (Addr × Obj)} (N : News h₀ L h (a :: b :: d :: e :: r)) : News h₀ L h (e :: b :: r) := fun p hp => N p (by
  simp only [List.mem_cons] at hp ⊢
  rcases hp with h | h | h <;> simp [h])
theorem midS {h₀ h : Heap} {L : Addr} {a b d e : Addr × Obj} {r : List (Addr × Obj)} (N : News h₀ L h (a :: b :: d :: e :: r)) : News h₀ L h (a :: d :: b :: e :: r) := fun p hp => N p (by
  simp only [List.mem_cons] at hp ⊢
  rcases hp with h | h | h | h | h <;> simp [h])
def MapE (m : Str → Option Value) (e pt : Int) (R S : Addr) : Prop :=
  ∃ t1 t2, m (Str.ofString "end") = some (.int e t1) ∧ m (Str.ofString "part") = some (.int pt t2) ∧ m (Str.ofString "found") = some (.ref R) ∧ m (Str.ofString "source") = some (.ref S)
def JE (pt : Int) (R S : Addr) (i : Nat) (m : Str → Option Value) (own : List (Addr × Obj)) : Prop :=
  ∃ a b ta tb c vs ns rc e, own = [(S, listOf #[.int a ta, .int b tb] c), (R, listOf (List.toArray vs) rc)] ∧ IntsAre vs ns ∧ ns.length = i ∧ ns.Pairwise (· ≤ ·) ∧ (∀ y ∈ ns, y ≤ e * pt) ∧ 0 ≤ a ∧ 0 ≤ b ∧ b < 2147483647 ∧ MapE m e pt R S ∧ -4 ≤ e ∧ e ≤ 5 + 5 * i
theorem MapE.fr {m : Str → Option Value} {e pt : Int} {R S : Addr} (hm : MapE m e pt R S) {h₀ h : Heap} {L : Addr} (F : Fr h₀ L h m) :
    ∃ t1 t2, Fr h₀ L h (fun y => if y = Str.ofString "end" then some (.int e t1) else if y = Str.ofString "part" then some (.int pt t2) else if y = Str.ofString "found" then some (.ref R) else if y = Str.ofString "source" then some (.ref S) else m y) := by
  obtain ⟨t1, t2, h1, h2, h3, h4⟩ := hm
  refine ⟨t1, t2, ?_⟩
  have q : (fun y => if y = Str.ofString "end" then some (.int e t1) else if y = Str.ofString "part" then some (.int pt t2) else if y = Str.ofString "found" then some (.ref R) else if y = Str.ofString "source" then some (.ref S) else m y) = m := by
    funext y
    by_cases q1 : y = Str.ofString "end"
    · rw [if_pos q1, q1, h1]
    · rw [if_neg q1]
      by_cases q2 : y = Str.ofString "part"
      · rw [if_pos q2, q2, h2]
      · rw [if_neg q2]
        by_cases q3 : y = Str.ofString "found"
        · rw [if_pos q3, q3, h3]
        · rw [if_neg q3]
          by_cases q4 : y = Str.ofString "source"
          · rw [if_pos q4, q4, h4]
          · rw [if_neg q4]
  rw [q]
  exact F

/-- a mark: the walk stops here -/
structure Stop (P : Prop) : Prop where
  out : P
theorem stopHere {P : Prop} (h : Stop P) : P := h.out
/-- what a call keeps and gives: first_from (its function object stands at 21): the list of sorted ints stands, the answer is how many lie below x -/
def FFC (K : Params → Frag) : Prop := ∀ (w : World) (p : Program) (loose : List Str) (mean : ExcName → Option Value) (mg mb : Str → Option Value),
  ∀ (dp un : Nat) (gd : Option (List Code)) (cn : Str) (cs : Scope) (a : Addr) (ccd : Value) (cl : List (Str × Addr)) (outer : List Env) (A₀ : Around) (base h₀ : Heap) (L : Addr) (m : Str → Option Value) (news : List (Addr × Obj)) (s : Shared) (l : Addr) (vs : List Value) (ns : List Int) (c : Nat) (x : Int) (tk : Tok)
    (Q E : Value → Shared → Prop),
    Below A₀ base outer h₀ → Fr h₀ L s.heap m → (K w.params).In h₀ → News h₀ L s.heap ((l, listOf vs.toArray c) :: news) → Top p loose mean mg mb h₀ → cs.kind = .function → IntsAre vs ns → ns.length < 2 ^ 20 → ns.Pairwise (· ≤ ·) → dp + 1 < recursionLimit → un + 8 < cLine →
    (∀ t h' tk', Fr h₀ L h' m → News h₀ L h' ((l, listOf vs.toArray c) :: news) → Q (.int (cnt ns x) t) { s with heap := h', toks := tk' }) →
    wpAny (model (PySem.Challenge.rw_xm0699_01.row.prog) w) (ktrTop dp un gd cn cs L a ccd cl outer) (call (.ref 21) [.ref l, .int x tk]) Q E s
/-- what a call keeps and gives: _law_is_right (54): of a list of at most 64 sorted ints it gives True -/
def ISC (K : Params → Frag) : Prop := ∀ (w : World) (p : Program) (loose : List Str) (mean : ExcName → Option Value) (mg mb : Str → Option Value),
  ∀ (dp un : Nat) (gd : Option (List Code)) (cn : Str) (cs : Scope) (a : Addr) (ccd : Value) (cl : List (Str × Addr)) (outer : List Env) (A₀ : Around) (base h₀ : Heap) (L : Addr) (m : Str → Option Value) (news : List (Addr × Obj)) (s : Shared) (l : Addr) (vs : List Value) (ns : List Int) (c : Nat)
    (Q E : Value → Shared → Prop),
    Below A₀ base outer h₀ → Fr h₀ L s.heap m → (K w.params).In h₀ → News h₀ L s.heap ((l, listOf vs.toArray c) :: news) → Top p loose mean mg mb h₀ → cs.kind = .function → IntsAre vs ns → ns.length ≤ 64 → ns.Pairwise (· ≤ ·) → dp + 2 < recursionLimit → un + 16 < cLine →
    (∀ h' tk', Fr h₀ L h' m → News h₀ L h' ((l, listOf vs.toArray c) :: news) → Q (.bool true) { s with heap := h', toks := tk' }) →
    wpAny (model (PySem.Challenge.rw_xm0699_01.row.prog) w) (ktrTop dp un gd cn cs L a ccd cl outer) (call (.ref 54) [.ref l]) Q E s
/-- what a call keeps and gives: _law_take (35): a number from 0 to top - 1; the source stays two ints, 0 or more, the second below 2147483647 -/
def TKC (K : Params → Frag) : Prop := ∀ (w : World) (p : Program) (loose : List Str) (mean : ExcName → Option Value) (mg mb : Str → Option Value),
  ∀ (dp un : Nat) (gd : Option (List Code)) (cn : Str) (cs : Scope) (aa : Addr) (ccd : Value) (cl : List (Str × Addr)) (outer : List Env) (A₀ : Around) (base h₀ : Heap) (L : Addr) (m : Str → Option Value) (news : List (Addr × Obj)) (s : Shared) (S : Addr) (a b : Int) (ta tb : Tok) (c : Nat) (top : Int) (tt : Tok)
    (Q E : Value → Shared → Prop),
    Below A₀ base outer h₀ → Fr h₀ L s.heap m → (K w.params).In h₀ → News h₀ L s.heap ((S, listOf #[.int a ta, .int b tb] c) :: news) → (∀ p ∈ news, p.1 ≠ S) → Top p loose mean mg mb h₀ → cs.kind = .function → 0 ≤ a → 0 ≤ b → b < 2147483647 → 1 ≤ top → top < 100 → dp + 1 < recursionLimit → un + 8 < cLine →
    (∀ v t a' ta' b' tb' c' h' tk', 0 ≤ v → v < top → 0 ≤ a' → 0 ≤ b' → b' < 2147483647 → Fr h₀ L h' m → News h₀ L h' ((S, listOf #[.int a' ta', .int b' tb'] c') :: news) → Q (.int v t) { s with heap := h', toks := tk' }) →
    wpAny (model (PySem.Challenge.rw_xm0699_01.row.prog) w) (ktrTop dp un gd cn cs L aa ccd cl outer) (call (.ref 35) [.ref S, .int top tt]) Q E s
/-- what a call keeps and gives: _law_one (42): an item of the list; the source as in TKC -/
def ONC (K : Params → Frag) : Prop := ∀ (w : World) (p : Program) (loose : List Str) (mean : ExcName → Option Value) (mg mb : Str → Option Value),
  ∀ (dp un : Nat) (gd : Option (List Code)) (cn : Str) (cs : Scope) (aa : Addr) (ccd : Value) (cl : List (Str × Addr)) (outer : List Env) (A₀ : Around) (base h₀ : Heap) (L : Addr) (m : Str → Option Value) (news : List (Addr × Obj)) (s : Shared) (S : Addr) (a b : Int) (ta tb : Tok) (c : Nat) (D : Addr) (tvs : List Value) (ts : List Int) (tc : Nat)
    (Q E : Value → Shared → Prop),
    Below A₀ base outer h₀ → Fr h₀ L s.heap m → (K w.params).In h₀ → News h₀ L s.heap ((D, listOf tvs.toArray tc) :: (S, listOf #[.int a ta, .int b tb] c) :: news) → D ≠ S → (∀ p ∈ news, p.1 ≠ S) → Top p loose mean mg mb h₀ → cs.kind = .function → 0 ≤ a → 0 ≤ b → b < 2147483647 → IntsAre tvs ts → 1 ≤ ts.length → ts.length < 100 → dp + 2 < recursionLimit → un + 16 < cLine →
    (∀ v t a' ta' b' tb' c' h' tk', v ∈ ts → 0 ≤ a' → 0 ≤ b' → b' < 2147483647 → Fr h₀ L h' m → News h₀ L h' ((D, listOf tvs.toArray tc) :: (S, listOf #[.int a' ta', .int b' tb'] c') :: news) → Q (.int v t) { s with heap := h', toks := tk' }) →
    wpAny (model (PySem.Challenge.rw_xm0699_01.row.prog) w) (ktrTop dp un gd cn cs L aa ccd cl outer) (call (.ref 42) [.ref S, .ref D]) Q E s
/-- what a call keeps and gives: _law_ends (49): a new list of at most 64 sorted ints; the source as in TKC -/
def ENC (K : Params → Frag) : Prop := ∀ (w : World) (p : Program) (loose : List Str) (mean : ExcName → Option Value) (mg mb : Str → Option Value),
  ∀ (dp un : Nat) (gd : Option (List Code)) (cn : Str) (cs : Scope) (aa : Addr) (ccd : Value) (cl : List (Str × Addr)) (outer : List Env) (A₀ : Around) (base h₀ : Heap) (L : Addr) (m : Str → Option Value) (news : List (Addr × Obj)) (s : Shared) (S : Addr) (a b : Int) (ta tb : Tok) (c : Nat)
    (Q E : Value → Shared → Prop),
    Below A₀ base outer h₀ → Fr h₀ L s.heap m → (K w.params).In h₀ → News h₀ L s.heap ((S, listOf #[.int a ta, .int b tb] c) :: news) → (∀ p ∈ news, p.1 ≠ S) → Top p loose mean mg mb h₀ → cs.kind = .function → 0 ≤ a → 0 ≤ b → b < 2147483647 → dp + 3 < recursionLimit → un + 24 < cLine →
    (∀ R vs ns rc a' ta' b' tb' c' h' tk', IntsAre vs ns → ns.length ≤ 64 → ns.Pairwise (· ≤ ·) → 0 ≤ a' → 0 ≤ b' → b' < 2147483647 → Fr h₀ L h' m → News h₀ L h' ((R, listOf vs.toArray rc) :: (S, listOf #[.int a' ta', .int b' tb'] c') :: news) → R ≠ S → Q (.ref R) { s with heap := h', toks := tk' }) →
    wpAny (model (PySem.Challenge.rw_xm0699_01.row.prog) w) (ktrTop dp un gd cn cs L aa ccd cl outer) (call (.ref 49) [.ref S]) Q E s
/-- what a call keeps and gives: _law_pool (28): a new source -/
def PLC (K : Params → Frag) : Prop := ∀ (w : World) (p : Program) (loose : List Str) (mean : ExcName → Option Value) (mg mb : Str → Option Value),
  ∀ (dp un : Nat) (gd : Option (List Code)) (cn : Str) (cs : Scope) (aa : Addr) (ccd : Value) (cl : List (Str × Addr)) (outer : List Env) (A₀ : Around) (base h₀ : Heap) (L : Addr) (m : Str → Option Value) (news : List (Addr × Obj)) (s : Shared) (l : Addr) (vs : List Value) (ns : List Int)
    (Q E : Value → Shared → Prop),
    Below A₀ base outer h₀ → Fr h₀ L s.heap m → (K w.params).In h₀ → News h₀ L s.heap news → Top p loose mean mg mb h₀ → cs.kind = .function → base.IsList l vs.toArray → IntsAre vs ns → ns.length < 2 ^ 62 → dp + 1 < recursionLimit → un + 8 < cLine →
    (∀ D a b ta tb c h' tk', 0 ≤ a → 0 ≤ b → b < 2147483647 → Fr h₀ L h' m → News h₀ L h' ((D, listOf #[.int a ta, .int b tb] c) :: news) → (∀ p ∈ news, p.1 ≠ D) → Q (.ref D) { s with heap := h', toks := tk' }) →
    wpAny (model (PySem.Challenge.rw_xm0699_01.row.prog) w) (ktrTop dp un gd cn cs L aa ccd cl outer) (call (.ref 28) [.ref l]) Q E s

theorem cutK {q : Program} {loose : List Str} {XP : (Str → Option Value) → Heap → Prop} {K : Params → Frag} {as : List Addr} {e : ∀ P, as = (K P).map (·.1)} {r : RowW} {d : DefRec} {kwd : List (Str × Expr)} {run : Value → List Value → Sem Value}
    (P : (Params → Frag) → Prop) (c : P K) (rest : P K → WalkO q loose XP (kHook K as e).says r d kwd run) : WalkO q loose XP (kHook K as e).says r d kwd run := rest c
end Mine
open Mine
local macro_rules | `(tactic| walk_at "call ref cons nil") => `(tactic| refine stopHere ?_)
local macro_rules | `(tactic| walk_at "exec For Name Name cons nil") => `(tactic| refine stopHere ?_)
local macro_rules | `(tactic| walk_at "exec For Name Call cons nil") => `(tactic| refine stopHere ?_)
local macro_rules | `(tactic| kmk_sum) => `(tactic| (simp only [sizeLine_eq, List.length_cons, List.length_nil]; omega))
local macro_rules | `(tactic| mul_fits) => `(tactic| exact mod_mul _ _ _)
local macro_rules | `(tactic| k_all) => `(tactic| assumption)
set_option maxRecDepth 100000 in
set_option maxHeartbeats 100000000 in
theorem PySem.Challenge.cw_xm0699_01_holds : PySem.Challenge.rw_xm0699_01.Holds := by
  w_on
  o_law
  k_head
  case hw => w_witness2
  refine cutK FFC ?ff fun ff => ?_
  case ff =>
    unfold FFC
    intro w p loose mean mg mb dp un gd cn cs a ccd cl outer A₀ base h₀ L m news s l vs ns c x tk Q E B F X N T hk hi hfit hs hd hu hret
    k_with "state" => first | exact ff_start ns x | exact ff_yes hs (by assumption) (by assumption) (by assumption) (by assumption) (by assumption) (by assumption) | exact ff_no hs (by assumption) (by assumption) (by assumption) (by assumption) (by assumption) (by assumption)
    k_with "measure" => first | exact ff_lessY (by assumption) (by assumption) | exact ff_lessN (by assumption) (by assumption)
    k_with "exec While Compare cons nil" => k_while_given ["ends", "code"] (fun ends code script lo hi => 0 ≤ lo ∧ lo ≤ cnt ends code ∧ cnt ends code ≤ hi ∧ hi ≤ (ends.length : Int)) (fun ends code script lo hi => (hi - lo).toNat) "low" "high"
    refine wpAny_call ?_
    k_dflt cell_enter
    k_steps
    exact cb_retI hret (by omega) (by assumption) (by assumption)
  k_with_none
  refine cutK ISC ?isr fun isr => ?_
  case isr =>
    unfold ISC
    intro w p loose mean mg mb dp un gd cn cs a ccd cl outer A₀ base h₀ L m news s l vs ns c Q E B F X N T hk hi hfit hs hd hu hret
    refine wpAny_call ?_
    k_dflt (refine code_defC B F X N T (by exact rfl) (by exact rfl) hk (by k_is) (by k_is) (by ktr_room) (by exact BindsTo.of_eq rfl) (by exact rfl) (by decide +kernel) ?_ (by exact rfl) (by exact rfl) (by exact rfl))
    intro g' L' h' tk' cells' FG' F' N' Y' B' X' T' l1
    k_lt l1
    k_cells Y'
    simp only [List.cons_append, List.nil_append] at N'
    k_steps
    refine Stop.mk ?_
    rename Fr g' L' _ _ => F1
    rename News g' L' _ _ => N1
    obtain ⟨q0, us0, c0, m0, hus0, hq0, hl0, F1, N1⟩ : ∃ q us c0 m0, IntsAre us [-10 ^ 30, 10 ^ 30, 0] ∧ m0 (Str.ofString "asked") = some (.ref q) ∧ m0 (Str.ofString "ends") = some (.ref l) ∧ Fr g' L' _ m0 ∧ News g' L' _ ((l, PySem.W.listOf vs.toArray c) :: ([(q, PySem.W.listOf us.toArray c0)] ++ (_ :: news))) := ⟨_, _, _, _, .cons _ _ (.cons _ _ (.cons _ _ .nil)), rfl, rfl, F1, reorder3 N1⟩
    refine lp_For_list (l := l) (vs := vs) (c := c) [(q0, PySem.W.listOf us0.toArray c0)] (_ :: news) (J1 l) rfl ?he F1 N1 ⟨q0, us0, _, c0, rfl, hus0, rfl, hq0, hl0⟩ ?turn ?done
    case he =>
      replace F1 := fr_asked hq0 hl0 F1
      k_steps
      all_goals exact ⟨rfl, rfl⟩
    case turn =>
      rintro i v m1 own I it h tk hv ⟨q, us, as, c', rfl, hus, hlen, hq, hl⟩ hr F2 N2
      replace F2 := fr_asked hq hl F2
      obtain ⟨k, t, rfl, hk'⟩ := hi.at i v hv
      clear F1 N1
      simp only [List.cons_append, List.nil_append] at N2 hr
      k_lt hr
      have hi64 : i < ns.length := (List.getElem?_eq_some_iff.mp hk').1
      have hlen' : as.length ≤ 200 := by omega
      k_steps
      rename News g' L' _ _ => NE
      rename Fr g' L' _ _ => FE
      rename IntsAre _ (as ++ _) => hIE
      dsimp only [LpPost]
      refine LpEnd.intro [(_, PySem.W.listOf _ 0)] FE NE (fun p hp => ?_) ?_ ⟨_, _, _, 0, rfl, hIE, ?_, rfl, rfl⟩
      · simp only [List.cons_append, List.nil_append, List.mem_cons] at hp ⊢
        rcases hp with h | h | h | h | h <;> simp [h]
      · k_all
      · simp only [List.length_append, List.length_cons, List.length_nil]
        omega
    case done =>
      rintro m1 own h tk ⟨q, us, as, c', rfl, hus, hlen, hq, hl⟩ F2 N2
      replace F2 := fr_asked hq hl F2
      clear F1 N1
      simp only [List.cons_append, List.nil_append] at N2
      rw [hi.length] at hlen
      k_steps
      refine Stop.mk ?_
      rename_i o' d' _ _ _ _ 
      refine lp_For_list (l := q) (vs := us) (c := c') [(L' + 1, o')] ((l, PySem.W.listOf vs.toArray c) :: news) (J2 l L') rfl ?he F2 (reorder3' N2) ⟨o', _, rfl, d', rfl⟩ ?turn ?done
      case he =>
        k_steps
        all_goals exact ⟨rfl, rfl⟩
      case turn => 
        rintro i v m1 own I it h tk hv ⟨o, v0, rfl, hd, hl⟩ hr F3 N3
        replace F3 := fr_ends hl F3
        obtain ⟨k, t, rfl, hk'⟩ := hus.at i v hv
        clear F2 N2
        simp only [List.cons_append, List.nil_append] at N3 hr
        have hqc : q ≠ L' + 1 := fun e => by
          have h1 := (N3 (q, _) (List.mem_cons_of_mem _ (List.mem_cons_self ..))).1
          have h2 := (N3 (L' + 1, o) (List.mem_cons_of_mem _ (List.mem_cons_of_mem _ (List.mem_cons_self ..)))).1
          rw [show (q, PySem.W.listOf us.toArray c').1 = L' + 1 from e] at h1
          rw [show (L' + 1, o).1 = L' + 1 from rfl, h1] at h2
          have h3 := congrArg Obj.data (Option.some.inj h2)
          rw [hd] at h3
          cases h3
        have hIc : I ≠ L' + 1 := Nat.ne_of_gt (hr (L' + 1, o') (List.mem_cons_of_mem _ (List.mem_cons_self ..)))
        have hnew : ∀ p ∈ (I, it) :: (q, PySem.W.listOf us.toArray c') :: (l, PySem.W.listOf vs.toArray c) :: news, p.1 ≠ L' + 1 := by
          intro p hp
          rcases List.mem_cons.mp hp with rfl | hp
          · exact hIc
          · rcases List.mem_cons.mp hp with rfl | hp
            · exact hqc
            · have h1 := kst_ltOf (show AllLt L' ((l, PySem.W.listOf vs.toArray c) :: news) from l1) p hp
              exact Nat.ne_of_lt (Nat.lt_succ_of_lt h1)
        have N4 := cellFirst N3
        refine storeX_C F3 N4 rfl (.head hnew) hd ?_
        intro h5 o5 F5 N5 hd5
        k_lt hr
        k_steps
        refine Stop.mk ?_
        k_dflt (refine' ff w p loose mean mg mb _ _ _ _ _ _ _ _ _ _ _ g' _ _ ((L' + 1, o5) :: (I, it) :: (q, PySem.W.listOf us.toArray c') :: news) _ l vs ns c k t _ _ ?k1 ?k2 ?k3 ?k4 ?k5 ?kK hi ?kl hs ?kd ?ku ?kR)
        case k1 => k_asm
        case k2 => k_asm
        case k3 => k_asm
        case k4 => exact ledLast N5
        case k5 => k_asm
        case kK => exact rfl
        case kl => omega
        case kd => ktr_room
        case ku => ktr_units
        case kR =>
          intro t6 h6 tk6 F6 N6
          clear F3 N3 N4 F5 N5
          (try dsimp only)
          (try k_fold)
          k_steps
          all_goals try k_data
          rename CarriedAll _ _ => hC
          rename Heap.IsList _ _ _ => hD
          have hsz := len_filter hC
          k_dflt (refine len_list hD (by rw [hsz]; have := cnt_le ns k; omega) ?_)
          rw [hsz]
          k_steps
          · exfalso
            rename ¬ (cnt ns k = cnt ns k) => hne
            exact hne rfl
          · rename News g' L' _ _ => NE
            rename Fr g' L' _ _ => FE
            dsimp only [LpPost]
            refine LpEnd.intro [(L' + 1, o5)] FE NE (fun p hp => ?_) ?_ ⟨o5, _, rfl, hd5, rfl⟩
            · simp only [List.cons_append, List.nil_append, List.mem_cons] at hp ⊢
              rcases hp with h | h | h | h | h <;> simp [h]
            · intro p hp
              rw [List.mem_singleton.mp hp]
              exact Ne.symm hIc
      case done =>
        rintro m1 own h tk ⟨o, v0, rfl, hd, hl⟩ F3 N3
        replace F3 := fr_ends hl F3
        clear F2 N2
        simp only [List.cons_append, List.nil_append] at N3
        k_steps
        rename Fr h₀ L h m => FE
        rename News h₀ L h _ => NE
        refine hret h tk FE (fun p hp => NE p ?_)
        simp only [List.mem_cons] at hp ⊢
        rcases hp with h | h <;> simp [h]
  refine cutK TKC ?take fun take => ?_
  case take =>
    unfold TKC
    intro w p loose mean mg mb dp un gd cn cs aa ccd cl outer A₀ base h₀ L m news s S a b ta tb c top tt Q E B F X N hoff T hk ha hb hb2 ht1 ht2 hd hu hret
    refine wpAny_call ?_
    k_dflt cell_enter
    k_steps
    · rename Fr h₀ L _ m => FE
      rename News h₀ L _ _ => NE
      exact hret (a.fmod top) _ (a.fdiv top) _ b _ _ _ _ (fmod_lo (by omega)) (fmod_hi (by omega)) (fdiv_lo ha (by omega)) hb hb2 FE NE
    · rename Fr h₀ L _ m => FE
      rename News h₀ L _ _ => NE
      exact hret (Int.fmod _ top) _ a _ (Int.fmod _ 2147483647) _ _ _ _ (fmod_lo (by omega)) (fmod_hi (by omega)) ha (fmod_lo (by omega)) (fmod_hi (by omega)) FE NE
  refine cutK ONC ?one fun one => ?_
  case one =>
    unfold ONC
    intro w p loose mean mg mb dp un gd cn cs aa ccd cl outer A₀ base h₀ L m news s S a b ta tb c D tvs ts tc Q E B F X N hDS hoff T hk ha hb hb2 hT ht1 ht2 hd hu hret
    refine wpAny_call ?_
    k_dflt cell_enter
    k_steps
    rename Fr _ _ _ (fun y => _) => F1
    rename Below _ base (_ :: _) _ => B1
    rename News _ _ _ _ => N1
    refine Stop.mk ?_
    k_dflt (refine' take w p loose mean mg mb _ _ _ _ _ _ _ _ _ _ _ _ _ _ ((D, PySem.W.listOf tvs.toArray tc) :: news) _ S a b ta tb c _ _ _ _ B1 F1 ?k3 (swap2 N1) ?ko ?k5 ?kK ha hb hb2 ?kt1 ?kt2 ?kd ?ku ?kR)
    case k3 => k_asm
    case ko => exact List.forall_mem_cons.mpr ⟨hDS, hoff⟩
    case k5 => k_asm
    case kK => exact rfl
    case kt1 => omega
    case kt2 => omega
    case kd => ktr_room
    case ku => ktr_units
    case kR =>
      intro v t a' ta' b' tb' c' h' tk' hv0 hv1 ha' hb' hb2' F2 N2
      clear F1 N1
      replace N2 := swap2 N2
      (try dsimp only)
      (try k_fold)
      k_steps
      rename Fr h₀ L _ m => FE
      rename News h₀ L _ _ => NE
      exact hret _ _ a' ta' b' tb' c' _ _ (getD_mem (by omega)) ha' hb' hb2' FE NE
  refine cutK ENC ?ends fun ends => ?_
  case ends =>
    unfold ENC
    intro w p loose mean mg mb dp un gd cn cs aa ccd cl outer A₀ base h₀ L m news s S a b ta tb c Q E B F X N hoff T hk ha hb hb2 hd hu hret
    refine wpAny_call ?_
    k_dflt cell_enter
    rename_i g' L' _ _ _ _ _ _ _
    k_steps
    rename Fr _ _ _ (fun y => _) => F1
    rename Below _ base (_ :: _) _ => B1
    rename News _ _ _ _ => N1
    refine Stop.mk ?_
    k_dflt (refine' take w p loose mean mg mb _ _ _ _ _ _ _ _ _ _ _ _ _ _ news _ S a b ta tb c _ _ _ _ B1 F1 ?k3 N1 hoff ?k5 ?kK ha hb hb2 ?kt1 ?kt2 ?kd ?ku ?kR)
    case k3 => k_asm
    case k5 => k_asm
    case kK => exact rfl
    case kt1 => decide
    case kt2 => decide
    case kd => ktr_room
    case ku => ktr_units
    case kR =>
      intro v1 t1 a1 ta1 b1 tb1 c1 h1 tk1 hv0 hv1 ha1 hb1 hb21 F2 N2
      clear F1 N1
      (try dsimp only)
      (try k_fold)
      k_steps
      rename_i D1 _ _ _ _
      rename News g' L' _ _ => N1
      rename Fr g' L' _ (fun y => _) => F1
      refine Stop.mk ?_
      k_dflt (refine' one w p loose mean mg mb _ _ _ _ _ _ _ _ _ _ _ _ _ _ news _ S a1 b1 ta1 tb1 c1 D1 _ [1, 1, 10 ^ 25] _ _ _ B1 F1 ?k3 N1 ?kDS hoff ?k5 ?kK ha1 hb1 hb21 ?kI ?kt1 ?kt2 ?kd ?ku ?kR)
      case k3 => k_asm
      case kDS => k_ne
      case k5 => k_asm
      case kK => exact rfl
      case kI => exact .cons _ _ (.cons _ _ (.cons _ _ .nil))
      case kt1 => decide
      case kt2 => decide
      case kd => ktr_room
      case ku => ktr_units
      case kR =>
        intro pt t2 a2 ta2 b2 tb2 c2 h2 tk2 hpt ha2 hb2' hb22 F2 N2
        clear F1 N1
        (try dsimp only)
        (try k_fold)
        k_steps
        refine Stop.mk ?_
        refine lp_For ?_
        (try k_fold)
        k_steps
        rename News g' L' _ _ => N1
        rename Fr g' L' _ (fun y => _) => F1
        obtain ⟨R, rc, m0, hm0, F2, N2, hRS, hRn⟩ : ∃ R rc m0, MapE m0 (v1 - 4) pt R S ∧ Fr g' L' _ m0 ∧ News g' L' _ ((S, PySem.W.listOf #[.int a2 ta2, .int b2 tb2] c2) :: (R, PySem.W.listOf ([] : List Value).toArray rc) :: news) ∧ R ≠ S ∧ (∀ p ∈ news, p.1 ≠ R) :=
          ⟨_, _, _, ⟨_, _, rfl, rfl, rfl, rfl⟩, F1, ledEnds N1, by k_ne, by k_all⟩
        clear F1 N1
        refine Stop.mk ?_
        k_dflt (refine' take w p loose mean mg mb _ _ _ _ _ _ _ _ _ _ _ _ _ _ ((R, PySem.W.listOf ([] : List Value).toArray rc) :: news) _ S a2 b2 ta2 tb2 c2 _ _ _ _ B1 F2 ?k3 N2 (List.forall_mem_cons.mpr ⟨hRS, hoff⟩) ?k5 ?kK ha2 hb2' hb22 ?kt1 ?kt2 ?kd ?ku ?kR)
        case k3 => k_asm
        case k5 => k_asm
        case kK => exact rfl
        case kt1 => decide
        case kt2 => decide
        case kd => ktr_room
        case ku => ktr_units
        case kR =>
          intro v3 t3 a3 ta3 b3 tb3 c3 h3 tk3 hv30 hv31 ha3 hb3 hb33 F3 N3
          clear F2 N2
          (try dsimp only)
          (try k_fold)
          k_steps
          rename News g' L' _ _ => N2
          rename Fr g' L' _ m0 => F2
          rename IsRange _ _ _ _ _ _ _ _ => hR
          have hsm : Builtin.Range.small 0 v3 1 = true := small_one (by omega) (by omega) (by omega) (by omega)
          have hsz : Builtin.Range.rangeSize 0 v3 1 = ((v3.toNat : Nat) : Int) := by
            have e : v3 = 0 + ((v3.toNat : Nat) : Int) := by omega
            rw [e]
            exact rangeSize_nat _ _
          refine lp_range [(S, PySem.W.listOf #[.int a3 ta3, .int b3 tb3] c3), (R, PySem.W.listOf ([] : List Value).toArray rc)] news (JE pt R S) rfl hR hsm hsz F2 N2
            ⟨a3, b3, ta3, tb3, c3, [], [], rc, v1 - 4, rfl, .nil, rfl, .nil, (fun _ h => nomatch h), ha3, hb3, hb33, hm0, by omega, by omega⟩ ?turn ?done
          case turn =>
            rintro i t m own I it h tk hi ⟨a, b, ta, tb, c, vs, ns, rc, e, rfl, hI, hlen, hs, hle, ha, hb, hb2, hm, he1, he2⟩ hlt F3 N3
            clear F2 N2
            obtain ⟨t1, t2, F3⟩ := hm.fr F3
            have he3 : e ≤ 55 := by omega
            have hl20 : vs.length ≤ 20 := by rw [hI.length]; omega
            simp only [List.cons_append, List.nil_append] at N3 hlt
            k_lt hlt
            k_steps
            rename News g' L' _ _ => N4
            rename Fr g' L' _ (fun y => _) => F4
            dsimp only [List.cons_append, List.nil_append]
            have hIS : I ≠ S := by k_ne
            have hIR : I ≠ R := by k_ne
            k_dflt (refine append_K F4 N4 (.tail hIR (.tail (Ne.symm hRS) (.head hRn))) ?_ (by rw [List.size_toArray, sizeLine_eq]; omega))
            intro h5 F5 N5
            clear F3 F4 N3 N4
            simp only [List.push_toArray] at N5
            obtain ⟨tz, N5⟩ : ∃ tz, News g' L' h5 ((I, it) :: (S, PySem.W.listOf #[.int a ta, .int b tb] c) :: (R, PySem.W.listOf (vs ++ [Value.int (e * pt) tz]).toArray (rc + 1)) :: news) := ⟨_, N5⟩
            have hI2 : IntsAre (vs ++ [Value.int (e * pt) tz]) (ns ++ [e * pt]) := hI.append (.cons (e * pt) _ .nil)
            k_steps
            rename News g' L' _ _ => N6
            rename Fr g' L' _ (fun y => _) => F6
            rename_i D2 _ _
            have hDS : D2 ≠ S := by k_ne
            refine Stop.mk ?_
            k_dflt (refine' one w p loose mean mg mb _ _ _ _ _ _ _ _ _ _ _ _ _ _ ((I, it) :: (R, PySem.W.listOf (vs ++ [Value.int (e * pt) tz]).toArray (rc + 1)) :: news) _ S a b ta tb c D2 _ [0, 1, 1, 2, 5] _ _ _ B1 F6 ?k3 (midS N6) hDS (List.forall_mem_cons.mpr ⟨hIS, List.forall_mem_cons.mpr ⟨hRS, hoff⟩⟩) ?k5 ?kK ha hb hb2 ?kI ?kt1 ?kt2 ?kd ?ku ?kR)
            case k3 => k_asm
            case k5 => k_asm
            case kK => exact rfl
            case kI => exact .cons _ _ (.cons _ _ (.cons _ _ (.cons _ _ (.cons _ _ .nil))))
            case kt1 => decide
            case kt2 => decide
            case kd => ktr_room
            case ku => ktr_units
            case kR =>
              intro d t6 a6 ta6 b6 tb6 c6 h6 tk6 hd6 ha6 hb6 hb66 F7 N7
              clear F6 N6
              (try dsimp only)
              (try k_fold)
              k_steps
              obtain ⟨hd0, hd5⟩ := steps_of hd6
              rename News g' L' _ _ => N8
              rename Fr g' L' _ (fun y => _) => F8
              dsimp only [LpPost]
              refine LpEnd.intro [(S, PySem.W.listOf #[.int a6 ta6, .int b6 tb6] c6), (R, PySem.W.listOf (vs ++ [Value.int (e * pt) tz]).toArray (rc + 1))] F8 N8 (fun p hp => ?_) ?_
                ⟨a6, b6, ta6, tb6, c6, _, _, rc + 1, e + d, rfl, hI2, ?_, turn_sorted hs hle, turn_le hle hd0 (part_of hpt), ha6, hb6, hb66, ⟨_, _, rfl, rfl, rfl, rfl⟩, ?_, ?_⟩
              · simp only [List.cons_append, List.nil_append, List.mem_cons] at hp ⊢
                rcases hp with h | h | h | h <;> simp [h]
              · exact List.forall_mem_cons.mpr ⟨Ne.symm hIS, List.forall_mem_cons.mpr ⟨Ne.symm hIR, List.forall_mem_nil _⟩⟩
              · rw [List.length_append, hlen]; rfl
              · omega
              · omega
          case done =>
            rintro m9 own h tk ⟨a, b, ta, tb, c, vs, ns, rc, e, rfl, hI, hlen, hs, hle, ha, hb, hb2, hm, he1, he2⟩ F3 N3
            clear F2 N2
            obtain ⟨t1, t2, F3⟩ := hm.fr F3
            simp only [List.cons_append, List.nil_append] at N3
            k_steps
            rename Fr h₀ L _ m => FE
            rename News h₀ L _ _ => NE
            exact hret R vs ns rc a _ b _ c _ _ hI (by omega) hs ha hb hb2 FE (swap2 NE) hRS
  refine cutK PLC ?pool fun pool => ?_
  case pool =>
    unfold PLC
    intro w p loose mean mg mb dp un gd cn cs aa ccd cl outer A₀ base h₀ L m news s l vs ns Q E B F X N T hk hl hi hfit hd hu hret
    refine wpAny_call ?_
    k_dflt cell_enter
    k_steps
    all_goals (
      rename Fr h₀ L _ m => FE
      rename News h₀ L _ (_ :: news) => NE
      rename (∀ p ∈ news, p.1 < _) => hl1
      refine hret _ _ _ _ _ _ _ _ ?_ ?_ ?_ FE NE (fun p hp => Nat.ne_of_lt (hl1 p hp))
      · first | exact Int.le_refl 0 | assumption | omega
      · exact fmod_lo (by decide)
      · exact fmod_hi (by decide))
  w_strict (
    k_go0
    all_goals try k_fold
    rename World => w
    k_steps
    rename Below callerA _ [] _ => B1
    rename News _ _ _ _ => N1
    rename Fr _ _ _ (fun y => _) => F1
    rename IntsAre _ _ => hI
    refine Stop.mk ?_
    k_dflt (refine' isr w _ _ _ _ _ _ _ _ _ _ _ _ _ _ _ _ _ _ _ [] _ _ _ [2, 5, 5, 9] _ _ _ B1 F1 ?k3 N1 ?k5 ?kK ?kI ?kl ?ks ?kd ?ku ?kR)
    case k3 => k_asm
    case k5 => k_asm
    case kK => exact rfl
    case kI => exact .cons _ _ (.cons _ _ (.cons _ _ (.cons _ _ .nil)))
    case kl => decide
    case ks => decide
    case kd => ktr_room
    case ku => ktr_units
    case kR =>
      intro h1 tk1 F2 N2
      clear F1 N1
      (try dsimp only)
      (try k_fold)
      k_steps
      rename Fr _ _ h1 (fun y => _) => F2
      refine Stop.mk ?_
      k_dflt (refine' pool w _ _ _ _ _ _ _ _ _ _ _ _ _ _ _ _ _ _ _ [] _ _ _ _ _ _ B1 F2 ?k3 News.nil ?k5 ?kK ?kl hI ?kn ?kd ?ku ?kR)
      case k3 => k_asm
      case k5 => k_asm
      case kK => exact rfl
      case kl => assumption
      case kn => omega
      case kd => ktr_room
      case ku => ktr_units
      case kR =>
        intro D a b ta tb c h2 tk2 ha hb hb2 F3 N3 _
        clear F2 N2
        (try dsimp only)
        (try k_fold)
        k_steps
        rename News _ _ _ [(D, _)] => N3
        rename Fr _ _ _ (fun y => _) => F3
        refine Stop.mk ?_
        k_dflt (refine' ends w _ _ _ _ _ _ _ _ _ _ _ _ _ _ _ _ _ _ _ [] _ D a b ta tb c _ _ B1 F3 ?k3 N3 (fun _ h => nomatch h) ?k5 ?kK ha hb hb2 ?kd ?ku ?kR)
        case k3 => k_asm
        case k5 => k_asm
        case kK => exact rfl
        case kd => ktr_room
        case ku => ktr_units
        case kR =>
          intro R vs ns rc a4 ta4 b4 tb4 c4 h4 tk4 hI4 hl4 hs4 ha4 hb4 hb44 F4 N4 hRD
          clear F3 N3
          (try dsimp only)
          (try k_fold)
          k_steps
          refine Stop.mk ?_
          k_dflt (refine' isr w _ _ _ _ _ _ _ _ _ _ _ _ _ _ _ _ _ _ _ _ _ R vs ns rc _ _ B1 F4 ?k3 N4 ?k5 ?kK hI4 hl4 hs4 ?kd ?ku ?kR)
          case k3 => k_asm
          case k5 => k_asm
          case kK => exact rfl
          case kd => ktr_room
          case ku => ktr_units
          case kR =>
            intro h5 tk5 F5 N5
            clear F4 N4
            (try dsimp only)
            (try k_fold)
            k_steps
            refine Stop.mk ?_
            k_dflt (refine' ends w _ _ _ _ _ _ _ _ _ _ _ _ _ _ _ _ _ _ _ [] _ D a4 b4 ta4 tb4 c4 _ _ B1 F5 ?k3 (fun p hp => N5 p (List.mem_cons_of_mem _ hp)) (fun _ h => nomatch h) ?k5 ?kK ha4 hb4 hb44 ?kd ?ku ?kR)
            case k3 => k_asm
            case k5 => k_asm
            case kK => exact rfl
            case kd => ktr_room
            case ku => ktr_units
            case kR =>
              intro R2 vs2 ns2 rc2 a6 ta6 b6 tb6 c6 h6 tk6 hI6 hl6 hs6 ha6 hb6 hb66 F6 N6 hRD2
              clear F5 N5
              (try dsimp only)
              (try k_fold)
              k_steps
              refine Stop.mk ?_
              k_dflt (refine' isr w _ _ _ _ _ _ _ _ _ _ _ _ _ _ _ _ _ _ _ _ _ R2 vs2 ns2 rc2 _ _ B1 F6 ?k3 N6 ?k5 ?kK hI6 hl6 hs6 ?kd ?ku ?kR)
              case k3 => k_asm
              case k5 => k_asm
              case kK => exact rfl
              case kd => ktr_room
              case ku => ktr_units
              case kR =>
                intro h7 tk7 F7 N7
                clear F6 N6
                (try dsimp only)
                (try k_fold)
                k_steps)
