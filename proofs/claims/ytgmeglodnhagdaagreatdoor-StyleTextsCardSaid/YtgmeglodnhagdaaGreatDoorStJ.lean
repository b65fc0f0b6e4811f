/- Style: the fields; differ; Differs; Print. -/
import Derived.Test.YtgmeglodnhagdaaGreatDoorStY
import Derived.Lib.ItoaLen

/-! ## StC -/
namespace Go.Proofs.YtgmeglodnhagdaaGreatDoor
open Go Go.SX Go.Proofs
set_option maxRecDepth 100000
variable [EA]
set_option linter.unusedVariables false
set_option linter.unusedSectionVars false
set_option linter.unusedSimpArgs false

/-! ### captured cells -/
/-- A closed function's number. -/
def fnOf : Q → Option Nat
  | .c (.func (.func f) a b) => if a.size = 0 ∧ b.size = 0 then some f else none
  | _ => none
abbrev fnQ (f : Nat) : Q := .c (.func (.func f) #[] #[])
theorem fnOf_inv {q : Q} {f : Nat} (h : fnOf q = some f) : q = fnQ f := by
  unfold fnOf at h
  split at h
  · rename_i g a b
    split at h
    · rename_i hs
      cases h
      rw [Array.eq_empty_of_size_eq_zero hs.1, Array.eq_empty_of_size_eq_zero hs.2]
    · cases h
  · cases h
def gC (q : Q) (g : Nat → Q) : Nat → Q
  | 0 => q
  | i + 1 => g i
theorem gC_eq (g : Nat → Q) {q : Q} (h : g 0 = q) : g = gC q fun i => g (i + 1) := by
  funext i
  cases i with
  | zero => exact h
  | succ i => rfl
def lkN (f : Nat) : List (Nat × Nat) → Option Nat
  | [] => none
  | (a, i) :: l => bif f == a then some i else lkN f l
theorem lkN_mem {f i : Nat} : ∀ {l : List (Nat × Nat)}, lkN f l = some i → (f, i) ∈ l
  | (a, k) :: l, h => by
    simp only [lkN] at h
    cases hf : f == a with
    | true => rw [hf] at h; cases h; rw [beq_iff_eq.1 hf]; exact List.mem_cons_self ..
    | false => rw [hf] at h; exact List.mem_cons_of_mem _ (lkN_mem h)
/-- A field that is a number. -/
def getN (s : Sty) : Nat → Int
  | 0 => s.c
  | 1 => s.w
  | 2 => s.g
  | 3 => s.r
  | 5 => s.h
  | 6 => s.o
  | 7 => s.wi
  | 9 => s.b
  | 10 => s.af
  | 12 => s.si
  | 14 => s.t
  | 15 => s.bo
  | _ => 0
def putN (s : Sty) (n : Int) : Nat → Sty
  | 0 => { s with c := n }
  | 1 => { s with w := n }
  | 2 => { s with g := n }
  | 3 => { s with r := n }
  | 5 => { s with h := n }
  | 6 => { s with o := n }
  | 7 => { s with wi := n }
  | 9 => { s with b := n }
  | 10 => { s with af := n }
  | 12 => { s with si := n }
  | 14 => { s with t := n }
  | 15 => { s with bo := n }
  | _ => s
def putB (s : Sty) : Nat → Sty
  | 4 => { s with a := true }
  | 8 => { s with k := true }
  | 11 => { s with sp := true }
  | 13 => { s with cl := true }
  | _ => s
abbrev rdO (t : TypeId) (s : Sty) (l : Q) (b : Bool) : XOut := ⟨some (.cells t (celL s (some l))), none, V.b b⟩
theorem atoiN_rng (v : ByteArray) : -9223372036854775808 ≤ atoiN v ∧ atoiN v ≤ 9223372036854775807 := by
  unfold atoiN
  split
  · rename_i v h
    have := Lib.atoiAll_bounds h
    omega
  · have := Lib.atoiSat_bounds (bL v)
    omega
  · omega
def rdS (F : Sty → Q → ByteArray → (Nat → Q) → T XOut) (o : Option Ob) (l : List V) (t : TypeId) : T XOut := .bad

abbrev noCount : List (Nat × Nat) := [(46, 0), (54, 6), (55, 7)]
abbrev noLength : List (Nat × Nat) := [(48, 1), (49, 2), (50, 3), (53, 5), (63, 14), (64, 15)]
abbrev noFlag : List (Nat × Nat) := [(52, 4), (56, 8), (60, 11), (62, 13)]
abbrev noWord : List (Nat × Nat) := [(58, 9), (59, 10), (61, 12)]

/-! ### count -/
abbrev itT (n : Int) : T V := .ite (decide (-9223372036854775808 ≤ n ∧ n ≤ 9223372036854775807)) (.leaf (V.s (bT (Lib.itoa n)))) .bad
def count1.s : List V → T V
  | [x, .q (.sp 1 get)] => onSt x fun s => match fnOf (get 0) with
    | some f => (match lkN f noCount with
      | some i => itT (getN s i)
      | none => .bad)
    | none => .bad
  | _ => .bad
noncomputable abbrev ΓCount1 : Gam := [(46, .x true (atS 0)), (54, .x true (atS 6)), (55, .x true (atS 7)), (94, itoa.s)]
theorem ΓCount1.ok : GOK Tryz.prog ΓCount1 := .consX at0.ok (.consX at6.ok (.consX at7.ok (.cons itoa.ok (GOK.nil _))))
theorem count1.eq0 (s : Sty) (g : Nat → Q) : funV Tryz.prog ΓCount1 [] Tryz.f93 (cod Tryz.f93) [styV s, .q (.sp 1 (gC (fnQ 46) g))] = itT (getN s 0) := by kernel_rfl
theorem count1.eq6 (s : Sty) (g : Nat → Q) : funV Tryz.prog ΓCount1 [] Tryz.f93 (cod Tryz.f93) [styV s, .q (.sp 1 (gC (fnQ 54) g))] = itT (getN s 6) := by kernel_rfl
theorem count1.eq7 (s : Sty) (g : Nat → Q) : funV Tryz.prog ΓCount1 [] Tryz.f93 (cod Tryz.f93) [styV s, .q (.sp 1 (gC (fnQ 55) g))] = itT (getN s 7) := by kernel_rfl
theorem count1.ok : SpecOK Tryz.prog 93 count1.s := by
  refine okF ΓCount1.ok Tryz.func93 (by kernel_rfl) (by kernel_rfl) fun args r hb hr => ?_
  unfold count1.s at hr
  split at hr
  · obtain ⟨s, rfl, hr2⟩ := onSt_pick hr
    replace hr := hr2
    split at hr
    · rename_i get _ f hf
      split at hr
      · rename_i i hi
        rw [gC_eq get (fnOf_inv hf)]
        refine ⟨[], LamOK.nil _ _, ?_⟩
        rw [← hr]
        have hm := lkN_mem hi
        simp only [noCount, List.mem_cons, List.not_mem_nil, or_false, Prod.mk.injEq] at hm
        rcases hm with ⟨rfl, rfl⟩ | ⟨rfl, rfl⟩ | ⟨rfl, rfl⟩
        · exact congrArg T.pick (count1.eq0 s _)
        · exact congrArg T.pick (count1.eq6 s _)
        · exact congrArg T.pick (count1.eq7 s _)
      · cases hr
    · cases hr
  · cases hr
def numOk (v : ByteArray) : Bool := bif atoiE v then (bif decide ((v.size : Int) < 9) then seqB (bT (Lib.itoa (atoiN v))) v else false) else false
abbrev tC2 (t : TypeId) (s : Sty) (l : Q) (v : ByteArray) (i : Nat) (b : Bool) : T XOut := .ite b (.ite (decide ((v.size : Int) < 9)) (.ite (decide (-9223372036854775808 ≤ atoiN v ∧ atoiN v ≤ 9223372036854775807)) (.leaf (rdO t (putN s (atoiN v) i) l (seqB (bT (Lib.itoa (atoiN v))) v))) .bad) (.leaf (rdO t (putN s (atoiN v) i) l false))) (.leaf (rdO t (putN s (atoiN v) i) l false))
theorem tC2_pick (t : TypeId) (s : Sty) (l : Q) (v : ByteArray) (i : Nat) : (T.ite (decide (v.size ≤ 1000000)) (.ite (atoiE v) (tC2 t s l v i true) (tC2 t s l v i false)) .bad).pick = (T.ite (decide (v.size ≤ 1000000)) (.leaf (rdO t (putN s (atoiN v) i) l (numOk v))) .bad).pick := by
  simp only [pick_ite, decide_eq_true (atoiN_rng v), cond_true, cond_false, pick_leaf, numOk]
  cases decide (v.size ≤ 1000000) <;> cases atoiE v <;> cases decide ((v.size : Int) < 9) <;> rfl
def count2.s : Option Ob → List V → T XOut
  | some (.cells t cs), [.ptr 0 0, .q (.c (.string v)), .q (.sp 1 get)] => onCell cs fun s o => match o, fnOf (get 0) with
    | some l, some f => (match lkN f noCount with
      | some i => .ite (decide (v.size ≤ 1000000)) (.leaf (rdO t (putN s (atoiN v) i) l (numOk v))) .bad
      | none => .bad)
    | _, _ => .bad
  | _, _ => .bad
noncomputable abbrev ΓCount2 : Gam := [(46, .x true (atS 0)), (54, .x true (atS 6)), (55, .x true (atS 7)), (94, itoa.s), (96, atoi.s)]
theorem ΓCount2.ok : GOK Tryz.prog ΓCount2 := .consX at0.ok (.consX at6.ok (.consX at7.ok (.cons itoa.ok (.cons atoi.ok (GOK.nil _)))))
theorem count2.eq0 (t : TypeId) (s : Sty) (l : Q) (v : ByteArray) (g : Nat → Q) : funX Tryz.prog ΓCount2 [] Tryz.f95 (cod Tryz.f95) false (some (.cells t (celL s (some l)))) [.ptr 0 0, V.s v, .q (.sp 1 (gC (fnQ 46) g))] = .ite (decide (v.size ≤ 1000000)) (.ite (atoiE v) (tC2 t s l v 0 true) (tC2 t s l v 0 false)) .bad := by kernel_rfl
theorem count2.eq6 (t : TypeId) (s : Sty) (l : Q) (v : ByteArray) (g : Nat → Q) : funX Tryz.prog ΓCount2 [] Tryz.f95 (cod Tryz.f95) false (some (.cells t (celL s (some l)))) [.ptr 0 0, V.s v, .q (.sp 1 (gC (fnQ 54) g))] = .ite (decide (v.size ≤ 1000000)) (.ite (atoiE v) (tC2 t s l v 6 true) (tC2 t s l v 6 false)) .bad := by kernel_rfl
theorem count2.eq7 (t : TypeId) (s : Sty) (l : Q) (v : ByteArray) (g : Nat → Q) : funX Tryz.prog ΓCount2 [] Tryz.f95 (cod Tryz.f95) false (some (.cells t (celL s (some l)))) [.ptr 0 0, V.s v, .q (.sp 1 (gC (fnQ 55) g))] = .ite (decide (v.size ≤ 1000000)) (.ite (atoiE v) (tC2 t s l v 7 true) (tC2 t s l v 7 false)) .bad := by kernel_rfl
theorem count2.ok : SpecX Tryz.prog 95 true count2.s := by
  refine specX_of_bodyW (ho := false) ΓCount2.ok Tryz.func95 (isBody _ (by kernel_rfl)) (by kernel_rfl) fun ls args x hl hb he => ?_
  unfold count2.s at he
  split at he
  · obtain ⟨s, o, rfl, he2⟩ := onCell_pick he
    replace he := he2
    split at he
    · rename_i v get _ _ l f hf
      split at he
      · rename_i i hi
        rw [gC_eq get (fnOf_inv hf)]
        refine ⟨_, [], .rfl, LamOK.nil _ _, ?_⟩
        rw [← he]
        have hm := lkN_mem hi
        simp only [noCount, List.mem_cons, List.not_mem_nil, or_false, Prod.mk.injEq] at hm
        rcases hm with ⟨rfl, rfl⟩ | ⟨rfl, rfl⟩ | ⟨rfl, rfl⟩
        · exact (congrArg T.pick (count2.eq0 _ s _ _ _)).trans (tC2_pick _ _ _ _ _)
        · exact (congrArg T.pick (count2.eq6 _ s _ _ _)).trans (tC2_pick _ _ _ _ _)
        · exact (congrArg T.pick (count2.eq7 _ s _ _ _)).trans (tC2_pick _ _ _ _ _)
      · cases he
    · cases he
  · cases he

/-! ### length -/
def length1.s : List V → T V
  | [x, .q (.sp 1 get)] => onSt x fun s => match fnOf (get 0) with
    | some f => (match lkN f noLength with
      | some i => .leaf (V.s (printT (getN s i)))
      | none => .bad)
    | none => .bad
  | _ => .bad
noncomputable abbrev ΓLength1 : Gam := [(48, .x true (atS 1)), (49, .x true (atS 2)), (50, .x true (atS 3)), (53, .x true (atS 5)), (63, .x true (atS 14)), (64, .x true (atS 15)), (98, uPrint2.s)]
theorem ΓLength1.ok : GOK Tryz.prog ΓLength1 := .consX at1.ok (.consX at2.ok (.consX at3.ok (.consX at5.ok (.consX at14.ok (.consX at15.ok (.cons uPrint2.ok (GOK.nil _)))))))
theorem length1.eq1 (s : Sty) (g : Nat → Q) : funV Tryz.prog ΓLength1 [] Tryz.f97 (cod Tryz.f97) [styV s, .q (.sp 1 (gC (fnQ 48) g))] = .leaf (V.s (printT (getN s 1))) := by kernel_rfl
theorem length1.eq2 (s : Sty) (g : Nat → Q) : funV Tryz.prog ΓLength1 [] Tryz.f97 (cod Tryz.f97) [styV s, .q (.sp 1 (gC (fnQ 49) g))] = .leaf (V.s (printT (getN s 2))) := by kernel_rfl
theorem length1.eq3 (s : Sty) (g : Nat → Q) : funV Tryz.prog ΓLength1 [] Tryz.f97 (cod Tryz.f97) [styV s, .q (.sp 1 (gC (fnQ 50) g))] = .leaf (V.s (printT (getN s 3))) := by kernel_rfl
theorem length1.eq5 (s : Sty) (g : Nat → Q) : funV Tryz.prog ΓLength1 [] Tryz.f97 (cod Tryz.f97) [styV s, .q (.sp 1 (gC (fnQ 53) g))] = .leaf (V.s (printT (getN s 5))) := by kernel_rfl
theorem length1.eq14 (s : Sty) (g : Nat → Q) : funV Tryz.prog ΓLength1 [] Tryz.f97 (cod Tryz.f97) [styV s, .q (.sp 1 (gC (fnQ 63) g))] = .leaf (V.s (printT (getN s 14))) := by kernel_rfl
theorem length1.eq15 (s : Sty) (g : Nat → Q) : funV Tryz.prog ΓLength1 [] Tryz.f97 (cod Tryz.f97) [styV s, .q (.sp 1 (gC (fnQ 64) g))] = .leaf (V.s (printT (getN s 15))) := by kernel_rfl
theorem length1.ok : SpecOK Tryz.prog 97 length1.s := by
  refine okF ΓLength1.ok Tryz.func97 (by kernel_rfl) (by kernel_rfl) fun args r hb hr => ?_
  unfold length1.s at hr
  split at hr
  · obtain ⟨s, rfl, hr2⟩ := onSt_pick hr
    replace hr := hr2
    split at hr
    · rename_i get _ f hf
      split at hr
      · rename_i i hi
        rw [gC_eq get (fnOf_inv hf)]
        refine ⟨[], LamOK.nil _ _, ?_⟩
        rw [← hr]
        have hm := lkN_mem hi
        simp only [noLength, List.mem_cons, List.not_mem_nil, or_false, Prod.mk.injEq] at hm
        rcases hm with ⟨rfl, rfl⟩ | ⟨rfl, rfl⟩ | ⟨rfl, rfl⟩ | ⟨rfl, rfl⟩ | ⟨rfl, rfl⟩ | ⟨rfl, rfl⟩
        · exact congrArg T.pick (length1.eq1 s _)
        · exact congrArg T.pick (length1.eq2 s _)
        · exact congrArg T.pick (length1.eq3 s _)
        · exact congrArg T.pick (length1.eq5 s _)
        · exact congrArg T.pick (length1.eq14 s _)
        · exact congrArg T.pick (length1.eq15 s _)
      · cases hr
    · cases hr
  · cases hr
def length2.s : Option Ob → List V → T XOut
  | some (.cells t cs), [.ptr 0 0, .q (.c (.string v)), .q (.sp 1 get)] => onCell cs fun s o => match o, fnOf (get 0) with
    | some l, some f => (match lkN f noLength with
      | some i => .ite (decide (v.size ≤ 1000000)) (.leaf (rdO t (putN s ((parO v).getD 0) i) l ((bif (parO v).isSome then (0 : Int) else 12) == 0))) .bad
      | none => .bad)
    | _, _ => .bad
  | _, _ => .bad
noncomputable abbrev ΓLength2 : Gam := [(48, .x true (atS 1)), (49, .x true (atS 2)), (50, .x true (atS 3)), (53, .x true (atS 5)), (63, .x true (atS 14)), (64, .x true (atS 15)), (98, uPrint2.s), (100, uParse.s)]
theorem ΓLength2.ok : GOK Tryz.prog ΓLength2 := .consX at1.ok (.consX at2.ok (.consX at3.ok (.consX at5.ok (.consX at14.ok (.consX at15.ok (.cons uPrint2.ok (.cons uParse.ok (GOK.nil _))))))))
theorem length2.eq1 (t : TypeId) (s : Sty) (l : Q) (v : ByteArray) (g : Nat → Q) : funX Tryz.prog ΓLength2 [] Tryz.f99 (cod Tryz.f99) false (some (.cells t (celL s (some l)))) [.ptr 0 0, V.s v, .q (.sp 1 (gC (fnQ 48) g))] = .ite (decide (v.size ≤ 1000000)) (.leaf (rdO t (putN s ((parO v).getD 0) 1) l ((bif (parO v).isSome then (0 : Int) else 12) == 0))) .bad := by kernel_rfl
theorem length2.eq2 (t : TypeId) (s : Sty) (l : Q) (v : ByteArray) (g : Nat → Q) : funX Tryz.prog ΓLength2 [] Tryz.f99 (cod Tryz.f99) false (some (.cells t (celL s (some l)))) [.ptr 0 0, V.s v, .q (.sp 1 (gC (fnQ 49) g))] = .ite (decide (v.size ≤ 1000000)) (.leaf (rdO t (putN s ((parO v).getD 0) 2) l ((bif (parO v).isSome then (0 : Int) else 12) == 0))) .bad := by kernel_rfl
theorem length2.eq3 (t : TypeId) (s : Sty) (l : Q) (v : ByteArray) (g : Nat → Q) : funX Tryz.prog ΓLength2 [] Tryz.f99 (cod Tryz.f99) false (some (.cells t (celL s (some l)))) [.ptr 0 0, V.s v, .q (.sp 1 (gC (fnQ 50) g))] = .ite (decide (v.size ≤ 1000000)) (.leaf (rdO t (putN s ((parO v).getD 0) 3) l ((bif (parO v).isSome then (0 : Int) else 12) == 0))) .bad := by kernel_rfl
theorem length2.eq5 (t : TypeId) (s : Sty) (l : Q) (v : ByteArray) (g : Nat → Q) : funX Tryz.prog ΓLength2 [] Tryz.f99 (cod Tryz.f99) false (some (.cells t (celL s (some l)))) [.ptr 0 0, V.s v, .q (.sp 1 (gC (fnQ 53) g))] = .ite (decide (v.size ≤ 1000000)) (.leaf (rdO t (putN s ((parO v).getD 0) 5) l ((bif (parO v).isSome then (0 : Int) else 12) == 0))) .bad := by kernel_rfl
theorem length2.eq14 (t : TypeId) (s : Sty) (l : Q) (v : ByteArray) (g : Nat → Q) : funX Tryz.prog ΓLength2 [] Tryz.f99 (cod Tryz.f99) false (some (.cells t (celL s (some l)))) [.ptr 0 0, V.s v, .q (.sp 1 (gC (fnQ 63) g))] = .ite (decide (v.size ≤ 1000000)) (.leaf (rdO t (putN s ((parO v).getD 0) 14) l ((bif (parO v).isSome then (0 : Int) else 12) == 0))) .bad := by kernel_rfl
theorem length2.eq15 (t : TypeId) (s : Sty) (l : Q) (v : ByteArray) (g : Nat → Q) : funX Tryz.prog ΓLength2 [] Tryz.f99 (cod Tryz.f99) false (some (.cells t (celL s (some l)))) [.ptr 0 0, V.s v, .q (.sp 1 (gC (fnQ 64) g))] = .ite (decide (v.size ≤ 1000000)) (.leaf (rdO t (putN s ((parO v).getD 0) 15) l ((bif (parO v).isSome then (0 : Int) else 12) == 0))) .bad := by kernel_rfl
theorem length2.ok : SpecX Tryz.prog 99 true length2.s := by
  refine specX_of_bodyW (ho := false) ΓLength2.ok Tryz.func99 (isBody _ (by kernel_rfl)) (by kernel_rfl) fun ls args x hl hb he => ?_
  unfold length2.s at he
  split at he
  · obtain ⟨s, o, rfl, he2⟩ := onCell_pick he
    replace he := he2
    split at he
    · rename_i v get _ _ l f hf
      split at he
      · rename_i i hi
        rw [gC_eq get (fnOf_inv hf)]
        refine ⟨_, [], .rfl, LamOK.nil _ _, ?_⟩
        rw [← he]
        have hm := lkN_mem hi
        simp only [noLength, List.mem_cons, List.not_mem_nil, or_false, Prod.mk.injEq] at hm
        rcases hm with ⟨rfl, rfl⟩ | ⟨rfl, rfl⟩ | ⟨rfl, rfl⟩ | ⟨rfl, rfl⟩ | ⟨rfl, rfl⟩ | ⟨rfl, rfl⟩
        · exact (congrArg T.pick (length2.eq1 _ s _ _ _)).trans rfl
        · exact (congrArg T.pick (length2.eq2 _ s _ _ _)).trans rfl
        · exact (congrArg T.pick (length2.eq3 _ s _ _ _)).trans rfl
        · exact (congrArg T.pick (length2.eq5 _ s _ _ _)).trans rfl
        · exact (congrArg T.pick (length2.eq14 _ s _ _ _)).trans rfl
        · exact (congrArg T.pick (length2.eq15 _ s _ _ _)).trans rfl
      · cases he
    · cases he
  · cases he

/-! ### flag -/
def flag1.s : List V → T V
  | [x] => onSt x fun s => .leaf (V.s (bT []))
  | _ => .bad
theorem flag1.ok : SpecOK Tryz.prog 101 flag1.s := ok1 (GOK.nil _) Tryz.func101 (by kernel_rfl) (by kernel_rfl) fun s => by kernel_rfl
def flag2.s : Option Ob → List V → T XOut
  | some (.cells t cs), [.ptr 0 0, .q (.c (.string v)), .q (.sp 1 get)] => onCell cs fun s o => match o, fnOf (get 0) with
    | some l, some f => (match lkN f noFlag with
      | some i => .leaf (rdO t (putB s i) l true)
      | none => .bad)
    | _, _ => .bad
  | _, _ => .bad
noncomputable abbrev ΓFlag2 : Gam := [(52, .x true (atS 4)), (56, .x true (atS 8)), (60, .x true (atS 11)), (62, .x true (atS 13))]
theorem ΓFlag2.ok : GOK Tryz.prog ΓFlag2 := .consX at4.ok (.consX at8.ok (.consX at11.ok (.consX at13.ok (GOK.nil _))))
theorem flag2.eq4 (t : TypeId) (s : Sty) (l : Q) (v : ByteArray) (g : Nat → Q) : funX Tryz.prog ΓFlag2 [] Tryz.f102 (cod Tryz.f102) false (some (.cells t (celL s (some l)))) [.ptr 0 0, V.s v, .q (.sp 1 (gC (fnQ 52) g))] = .leaf (rdO t (putB s 4) l true) := by kernel_rfl
theorem flag2.eq8 (t : TypeId) (s : Sty) (l : Q) (v : ByteArray) (g : Nat → Q) : funX Tryz.prog ΓFlag2 [] Tryz.f102 (cod Tryz.f102) false (some (.cells t (celL s (some l)))) [.ptr 0 0, V.s v, .q (.sp 1 (gC (fnQ 56) g))] = .leaf (rdO t (putB s 8) l true) := by kernel_rfl
theorem flag2.eq11 (t : TypeId) (s : Sty) (l : Q) (v : ByteArray) (g : Nat → Q) : funX Tryz.prog ΓFlag2 [] Tryz.f102 (cod Tryz.f102) false (some (.cells t (celL s (some l)))) [.ptr 0 0, V.s v, .q (.sp 1 (gC (fnQ 60) g))] = .leaf (rdO t (putB s 11) l true) := by kernel_rfl
theorem flag2.eq13 (t : TypeId) (s : Sty) (l : Q) (v : ByteArray) (g : Nat → Q) : funX Tryz.prog ΓFlag2 [] Tryz.f102 (cod Tryz.f102) false (some (.cells t (celL s (some l)))) [.ptr 0 0, V.s v, .q (.sp 1 (gC (fnQ 62) g))] = .leaf (rdO t (putB s 13) l true) := by kernel_rfl
theorem flag2.ok : SpecX Tryz.prog 102 true flag2.s := by
  refine specX_of_bodyW (ho := false) ΓFlag2.ok Tryz.func102 (isBody _ (by kernel_rfl)) (by kernel_rfl) fun ls args x hl hb he => ?_
  unfold flag2.s at he
  split at he
  · obtain ⟨s, o, rfl, he2⟩ := onCell_pick he
    replace he := he2
    split at he
    · rename_i v get _ _ l f hf
      split at he
      · rename_i i hi
        rw [gC_eq get (fnOf_inv hf)]
        refine ⟨_, [], .rfl, LamOK.nil _ _, ?_⟩
        rw [← he]
        have hm := lkN_mem hi
        simp only [noFlag, List.mem_cons, List.not_mem_nil, or_false, Prod.mk.injEq] at hm
        rcases hm with ⟨rfl, rfl⟩ | ⟨rfl, rfl⟩ | ⟨rfl, rfl⟩ | ⟨rfl, rfl⟩
        · exact (congrArg T.pick (flag2.eq4 _ s _ _ _)).trans rfl
        · exact (congrArg T.pick (flag2.eq8 _ s _ _ _)).trans rfl
        · exact (congrArg T.pick (flag2.eq11 _ s _ _ _)).trans rfl
        · exact (congrArg T.pick (flag2.eq13 _ s _ _ _)).trans rfl
      · cases he
    · cases he
  · cases he
end Go.Proofs.YtgmeglodnhagdaaGreatDoor

/-! ## StD -/
namespace Go.Proofs.YtgmeglodnhagdaaGreatDoor
open Go Go.SX Go.Proofs
set_option maxRecDepth 100000
variable [EA]
set_option linter.unusedVariables false
set_option linter.unusedSectionVars false
set_option linter.unusedSimpArgs false

/-! ### the first of some -/
def fstN (n : Nat) (q : Nat → Bool) : Option Nat := (List.range n).find? q
theorem fstN_some {n k : Nat} {q : Nat → Bool} (hk : k < n) (h : q k = true) (hb : ∀ j, j < k → q j = false) : fstN n q = some k := by
  rw [fstN, List.find?_range_eq_some]
  exact ⟨h, List.mem_range.2 hk, fun j hj => by rw [hb j hj]; rfl⟩
theorem fstN_none {n : Nat} {q : Nat → Bool} (hb : ∀ j, j < n → q j = false) : fstN n q = none := by
  rw [fstN, List.find?_range_eq_none]
  exact fun j hj => by rw [hb j hj]; rfl
theorem loopFnd {P : Program} {Γ : Gam} {root : Code} (hΓ : GOK P Γ) {p : List Nat} {b : Code} (hc : codeAt root (0 :: p) = some b) {n : Nat} (hn : n ≤ 9223372036854775807) (S : Int → St) (q : Nat → Bool) (ret : Nat → St) (fin : St) (nn k : Nat) (live : Ex → List Nat) (post : Ex → St → St) (hpost : ∀ e s, Sub P s (post e s))
    (h1 : ∀ i, i < n → q i = true → (ltree P Γ [] p b nn k live post (S i)).pick = some (.ret, ret i, true))
    (h2 : ∀ i, i < n → q i = false → (ltree P Γ [] p b nn k live post (S i)).pick = some (.normal, S (w64 (i + 1)), true))
    (h3 : (ltree P Γ [] p b nn k live post (S (n : Nat))).pick = some (.exit 0, fin, true)) : ∀ x, (T.ite (fstN n q).isSome (.leaf (.ret, ret ((fstN n q).getD 0))) (.leaf (Ex.exit 0, fin))).pick = some x → SemC P (.loop b) (S (0 : Nat)) x :=
  loop_nat hΓ hc n (fun i => ∀ j, j < i → q j = false) (fun i => S i) _ nn k live post hpost (fun i hi hall => by
    rcases Nat.lt_or_ge i n with hlt | hge
    · cases hq : q i with
      | false =>
        have g := h2 i hlt hq
        rw [w64_suc hlt hn] at g
        exact ⟨[], .normal, _, LamOK.nil _ _, g, .inl ⟨rfl, hlt, fun j hj => by
          rcases Nat.lt_or_ge j i with h | h
          · exact hall j h
          · rwa [show j = i by omega], rfl⟩⟩
      | true =>
        refine ⟨[], .ret, _, LamOK.nil _ _, h1 i hlt hq, .inr ⟨by simp, ?_⟩⟩
        rw [fstN_some hlt hq hall]; rfl
    · have h : i = n := by omega
      subst h
      refine ⟨[], .exit 0, _, LamOK.nil _ _, h3, .inr ⟨by simp, ?_⟩⟩
      rw [fstN_none hall]; rfl) (fun j hj => by omega)
abbrev idxI (o : Option Nat) : Int := bif o.isSome then ((o.getD 0 : Nat) : Int) else -1

/-! ### slices.Index -/
noncomputable abbrev bodyIx : Code := loopAt Tryz.f105 [0, 1, 0, 1]
abbrev lS (n : Nat) (g : Nat → Nat → Q) : V := .q (.lst [.str] n g)
def SIx (s : ByteArray) (n : Nat) (g : Nat → Nat → Q) (i : Int) : St := mkS 19 [(0, lS n g), (1, V.s s), (7, V.i n), (8, V.i i)] [] [] false [] 0
def liveIx : Ex → List Nat | .normal => [0, 1, 7, 8] | .ret => [4] | _ => []
noncomputable abbrev treeIx (s : St) : T (Ex × St × Bool) := ltree Tryz.prog [] [] [0, 1, 0, 1] bodyIx 19 0 liveIx poN s
abbrev qIx (s : ByteArray) (g : Nat → Nat → Q) (i : Nat) : Bool := seqB s (qStr (g i 0))
theorem stepIx (s : ByteArray) (n : Nat) (g : Nat → Nat → Q) (i : Nat) : treeIx (SIx s n g i) =
    .ite (decide ((i : Int) < n)) (.ite (inI i n) (.ite (qIx s g i) (.leaf (.ret, mkS 19 [(4, V.i i)] [] [] false [] 0, true)) (.leaf (.normal, SIx s n g (w64 (i + 1)), true))) .bad) (.leaf (.exit 0, mkS 19 [] [] [] false [] 0, true)) := by kernel_rfl
theorem loopIx (s : ByteArray) (n : Nat) (g : Nat → Nat → Q) (hn : n ≤ 9223372036854775807) : ∀ x, (T.ite (fstN n (qIx s g)).isSome (.leaf (Ex.ret, mkS 19 [(4, V.i ((fstN n (qIx s g)).getD 0 : Nat))] [] [] false [] 0)) (.leaf (.exit 0, mkS 19 [] [] [] false [] 0))).pick = some x → SemC Tryz.prog (.loop bodyIx) (SIx s n g (0 : Nat)) x := by
  refine loopFnd (GOK.nil _) (root := cod Tryz.f105) (p := [0, 1, 0, 1]) (by kernel_rfl) hn (fun i => SIx s n g i) (qIx s g) (fun i => mkS 19 [(4, V.i (i : Nat))] [] [] false [] 0) _ 19 0 liveIx poN poN_ok (fun i hlt hq => ?_) (fun i hlt hq => ?_) ?_
  · exact (congrArg T.pick (stepIx s n g i)).trans (by rw [c_lt hlt, c_inI hlt, hq]; rfl)
  · exact (congrArg T.pick (stepIx s n g i)).trans (by rw [c_lt hlt, c_inI hlt, hq]; rfl)
  · exact (congrArg T.pick (stepIx s n g n)).trans (by rw [c_ge (Nat.le_refl _)]; rfl)
def indexS.s : List V → T V
  | [.q (.lst [.str] n g), .q (.c (.string s))] => .leaf (V.i (idxI (fstN n (qIx s g))))
  | _ => .bad
theorem indexS.ok : SpecOK Tryz.prog 105 indexS.s := by
  refine okF (GOK.nil _) Tryz.func105 (by kernel_rfl) (by kernel_rfl) fun args r hb hr => ?_
  unfold indexS.s at hr
  split at hr
  · rename_i n g s
    have hn : n ≤ 9223372036854775807 := (hb (lS n g) (by simp)).1
    refine ⟨_, LamOK.orc (p := [0, 1, 0, 1]) (mk := false) (nn := 19) (k := 0) (live := liveIx .normal) (c := .loop bodyIx) (by kernel_rfl) (loopIx s n g hn) (LamOK.nil _ _), ?_⟩
    have e : ∀ q k, funV Tryz.prog [] [([0, 1, 0, 1], orc false 19 0 (liveIx .normal) (SIx s n g (0 : Nat)) (.ite q (.leaf (Ex.ret, mkS 19 [(4, V.i k)] [] [] false [] 0)) (.leaf (.exit 0, mkS 19 [] [] [] false [] 0))))] Tryz.f105 (cod Tryz.f105) [lS n g, V.s s] =
        .ite (@decide (SIx s n g (0 : Nat) = SIx s n g (0 : Nat)) (Classical.propDecidable _)) (.ite q (.leaf (V.i k)) (.leaf (V.i (-1)))) .bad := fun q k => by kernel_rfl
    rw [e, ← hr]
    refine (pick_same _ _).trans ?_
    rw [pick_ite, idxI]
    cases (fstN n (qIx s g)).isSome <;> rfl
  · cases hr

/-! ### word -/
/-- Which word it is. -/
abbrev wdI (v : Int) : Int := w64 ((if ((2 : Nat) : Int) < (if 1 > v then 1 else v) then ((2 : Nat) : Int) else (if 1 > v then 1 else v)) - 1)
abbrev wdT (u : Nat → Nat → Q) (v : Int) : T V := .ite (decide (0 ≤ wdI v ∧ wdI v < ((2 : Nat) : Int))) (.leaf (V.s (qStr (u (wdI v).toNat 0)))) .bad
def word1.s : List V → T V
  | [x, .q (.sp 1 gl), .q (.sp 1 get)] => onSt x fun s => match fnOf (get 0), gl 0 with
    | some f, .lst [.str] 2 u => (match lkN f noWord with
      | some i => wdT u (getN s i)
      | none => .bad)
    | _, _ => .bad
  | _ => .bad
noncomputable abbrev ΓWord1 : Gam := [(58, .x true (atS 9)), (59, .x true (atS 10)), (61, .x true (atS 12))]
theorem ΓWord1.ok : GOK Tryz.prog ΓWord1 := .consX at9.ok (.consX at10.ok (.consX at12.ok (GOK.nil _)))
theorem word1.eq9 (s : Sty) (g h : Nat → Q) (u : Nat → Nat → Q) : funV Tryz.prog ΓWord1 [] Tryz.f103 (cod Tryz.f103) [styV s, .q (.sp 1 (gC (.lst [.str] 2 u) h)), .q (.sp 1 (gC (fnQ 58) g))] = wdT u (getN s 9) := by kernel_rfl
theorem word1.eq10 (s : Sty) (g h : Nat → Q) (u : Nat → Nat → Q) : funV Tryz.prog ΓWord1 [] Tryz.f103 (cod Tryz.f103) [styV s, .q (.sp 1 (gC (.lst [.str] 2 u) h)), .q (.sp 1 (gC (fnQ 59) g))] = wdT u (getN s 10) := by kernel_rfl
theorem word1.eq12 (s : Sty) (g h : Nat → Q) (u : Nat → Nat → Q) : funV Tryz.prog ΓWord1 [] Tryz.f103 (cod Tryz.f103) [styV s, .q (.sp 1 (gC (.lst [.str] 2 u) h)), .q (.sp 1 (gC (fnQ 61) g))] = wdT u (getN s 12) := by kernel_rfl
theorem word1.ok : SpecOK Tryz.prog 103 word1.s := by
  refine okF ΓWord1.ok Tryz.func103 (by kernel_rfl) (by kernel_rfl) fun args r hb hr => ?_
  unfold word1.s at hr
  split at hr
  · obtain ⟨s, rfl, hr2⟩ := onSt_pick hr
    replace hr := hr2
    split at hr
    · rename_i gl get _ _ f u hf hu
      split at hr
      · rename_i i hi
        rw [gC_eq get (fnOf_inv hf), gC_eq gl hu]
        refine ⟨[], LamOK.nil _ _, ?_⟩
        rw [← hr]
        have hm := lkN_mem hi
        simp only [noWord, List.mem_cons, List.not_mem_nil, or_false, Prod.mk.injEq] at hm
        rcases hm with ⟨rfl, rfl⟩ | ⟨rfl, rfl⟩ | ⟨rfl, rfl⟩
        · exact congrArg T.pick (word1.eq9 s _ _ _)
        · exact congrArg T.pick (word1.eq10 s _ _ _)
        · exact congrArg T.pick (word1.eq12 s _ _ _)
      · cases hr
    · cases hr
  · cases hr
abbrev wdN (v : ByteArray) (u : Nat → Nat → Q) : Int := w64 (idxI (fstN 2 (qIx v u)) + 1)
def word2.s : Option Ob → List V → T XOut
  | some (.cells t cs), [.ptr 0 0, .q (.c (.string v)), .q (.sp 1 gl), .q (.sp 1 get)] => onCell cs fun s o => match o, fnOf (get 0), gl 0 with
    | some l, some f, .lst [.str] 2 u => (match lkN f noWord with
      | some i => .leaf (rdO t (putN s (wdN v u) i) l (decide (wdN v u > 0)))
      | none => .bad)
    | _, _, _ => .bad
  | _, _ => .bad
noncomputable abbrev ΓWord2 : Gam := [(58, .x true (atS 9)), (59, .x true (atS 10)), (61, .x true (atS 12)), (105, indexS.s)]
theorem ΓWord2.ok : GOK Tryz.prog ΓWord2 := .consX at9.ok (.consX at10.ok (.consX at12.ok (.cons indexS.ok (GOK.nil _))))
theorem word2.eq9 (t : TypeId) (s : Sty) (l : Q) (v : ByteArray) (g h : Nat → Q) (u : Nat → Nat → Q) : funX Tryz.prog ΓWord2 [] Tryz.f104 (cod Tryz.f104) false (some (.cells t (celL s (some l)))) [.ptr 0 0, V.s v, .q (.sp 1 (gC (.lst [.str] 2 u) h)), .q (.sp 1 (gC (fnQ 58) g))] = .leaf (rdO t (putN s (wdN v u) 9) l (decide (wdN v u > 0))) := by kernel_rfl
theorem word2.eq10 (t : TypeId) (s : Sty) (l : Q) (v : ByteArray) (g h : Nat → Q) (u : Nat → Nat → Q) : funX Tryz.prog ΓWord2 [] Tryz.f104 (cod Tryz.f104) false (some (.cells t (celL s (some l)))) [.ptr 0 0, V.s v, .q (.sp 1 (gC (.lst [.str] 2 u) h)), .q (.sp 1 (gC (fnQ 59) g))] = .leaf (rdO t (putN s (wdN v u) 10) l (decide (wdN v u > 0))) := by kernel_rfl
theorem word2.eq12 (t : TypeId) (s : Sty) (l : Q) (v : ByteArray) (g h : Nat → Q) (u : Nat → Nat → Q) : funX Tryz.prog ΓWord2 [] Tryz.f104 (cod Tryz.f104) false (some (.cells t (celL s (some l)))) [.ptr 0 0, V.s v, .q (.sp 1 (gC (.lst [.str] 2 u) h)), .q (.sp 1 (gC (fnQ 61) g))] = .leaf (rdO t (putN s (wdN v u) 12) l (decide (wdN v u > 0))) := by kernel_rfl
theorem word2.ok : SpecX Tryz.prog 104 true word2.s := by
  refine specX_of_bodyW (ho := false) ΓWord2.ok Tryz.func104 (isBody _ (by kernel_rfl)) (by kernel_rfl) fun ls args x hl hb he => ?_
  unfold word2.s at he
  split at he
  · obtain ⟨s, o, rfl, he2⟩ := onCell_pick he
    replace he := he2
    split at he
    · rename_i v gl get _ _ _ l f u hf hu
      split at he
      · rename_i i hi
        rw [gC_eq get (fnOf_inv hf), gC_eq gl hu]
        refine ⟨_, [], .rfl, LamOK.nil _ _, ?_⟩
        rw [← he]
        have hm := lkN_mem hi
        simp only [noWord, List.mem_cons, List.not_mem_nil, or_false, Prod.mk.injEq] at hm
        rcases hm with ⟨rfl, rfl⟩ | ⟨rfl, rfl⟩ | ⟨rfl, rfl⟩
        · exact (congrArg T.pick (word2.eq9 _ s _ _ _ _ _)).trans rfl
        · exact (congrArg T.pick (word2.eq10 _ s _ _ _ _ _)).trans rfl
        · exact (congrArg T.pick (word2.eq12 _ s _ _ _ _ _)).trans rfl
      · cases he
    · cases he
  · cases he
end Go.Proofs.YtgmeglodnhagdaaGreatDoor

/-! ## StE -/
namespace Go.Proofs.YtgmeglodnhagdaaGreatDoor
open Go Go.SX Go.Proofs
set_option maxRecDepth 100000
variable [EA]
set_option linter.unusedVariables false
set_option linter.unusedSectionVars false
set_option linter.unusedSimpArgs false

/-! ### what makes a field -/
abbrev capQ (q : Q) : Q := .sp 1 (fun j => [q].getD j default)
def count.s : List V → T V
  | [.q (.c (.string nm)), .q q] => (match fnOf q with
    | some f => .leaf (.agg [V.s nm, V.b true, .q (.clo 93 [capQ (fnQ f)]), .q (.clo 95 [capQ (fnQ f)])])
    | none => .bad)
  | _ => .bad
theorem count.ok : SpecOK Tryz.prog 45 count.s := by
  refine okF (GOK.nil _) Tryz.func45 (by kernel_rfl) (by kernel_rfl) fun args r hb hr => ?_
  unfold count.s at hr
  split at hr
  · split at hr
    · rename_i nm q _ f hf
      rw [fnOf_inv hf]
      exact ⟨[], LamOK.nil _ _, (congrArg T.pick (show funV Tryz.prog [] [] Tryz.f45 (cod Tryz.f45) [V.s nm, .q (fnQ f)] = .leaf (.agg [V.s nm, V.b true, .q (.clo 93 [capQ (fnQ f)]), .q (.clo 95 [capQ (fnQ f)])]) by kernel_rfl)).trans hr⟩
    · cases hr
  · cases hr
def length.s : List V → T V
  | [.q (.c (.string nm)), .q q] => (match fnOf q with
    | some f => .leaf (.agg [V.s nm, V.b true, .q (.clo 97 [capQ (fnQ f)]), .q (.clo 99 [capQ (fnQ f)])])
    | none => .bad)
  | _ => .bad
theorem length.ok : SpecOK Tryz.prog 47 length.s := by
  refine okF (GOK.nil _) Tryz.func47 (by kernel_rfl) (by kernel_rfl) fun args r hb hr => ?_
  unfold length.s at hr
  split at hr
  · split at hr
    · rename_i nm q _ f hf
      rw [fnOf_inv hf]
      exact ⟨[], LamOK.nil _ _, (congrArg T.pick (show funV Tryz.prog [] [] Tryz.f47 (cod Tryz.f47) [V.s nm, .q (fnQ f)] = .leaf (.agg [V.s nm, V.b true, .q (.clo 97 [capQ (fnQ f)]), .q (.clo 99 [capQ (fnQ f)])]) by kernel_rfl)).trans hr⟩
    · cases hr
  · cases hr
/-- A function without captures, as a closure of none. -/
def flag.s : List V → T V
  | [.q (.c (.string nm)), .q q] => (match fnOf q with
    | some f => .leaf (.agg [V.s nm, V.b false, .q (fnQ 101), .q (.clo 102 [capQ (fnQ f)])])
    | none => .bad)
  | _ => .bad
theorem flag.ok : SpecOK Tryz.prog 51 flag.s := by
  refine okF (GOK.nil _) Tryz.func51 (by kernel_rfl) (by kernel_rfl) fun args r hb hr => ?_
  unfold flag.s at hr
  split at hr
  · split at hr
    · rename_i nm q _ f hf
      rw [fnOf_inv hf]
      exact ⟨[], LamOK.nil _ _, (congrArg T.pick (show funV Tryz.prog [] [] Tryz.f51 (cod Tryz.f51) [V.s nm, .q (fnQ f)] = .leaf (.agg [V.s nm, V.b false, .q (fnQ 101), .q (.clo 102 [capQ (fnQ f)])]) by kernel_rfl)).trans hr⟩
    · cases hr
  · cases hr
def word.s : List V → T V
  | [.q (.c (.string nm)), .q q, .q (.lst [.str] n g)] => (match fnOf q with
    | some f => .leaf (.agg [V.s nm, V.b true, .q (.clo 103 [capQ (.lst [.str] n g), capQ (fnQ f)]), .q (.clo 104 [capQ (.lst [.str] n g), capQ (fnQ f)])])
    | none => .bad)
  | _ => .bad
theorem word.ok : SpecOK Tryz.prog 57 word.s := by
  refine okF (GOK.nil _) Tryz.func57 (by kernel_rfl) (by kernel_rfl) fun args r hb hr => ?_
  unfold word.s at hr
  split at hr
  · split at hr
    · rename_i nm q n g _ f hf
      rw [fnOf_inv hf]
      exact ⟨[], LamOK.nil _ _, (congrArg T.pick (show funV Tryz.prog [] [] Tryz.f57 (cod Tryz.f57) [V.s nm, .q (fnQ f), .q (.lst [.str] n g)] = .leaf (.agg [V.s nm, V.b true, .q (.clo 103 [capQ (.lst [.str] n g), capQ (fnQ f)]), .q (.clo 104 [capQ (.lst [.str] n g), capQ (fnQ f)])]) by kernel_rfl)).trans hr⟩
    · cases hr
  · cases hr
/-! ### fields -/
abbrev txQ (b : ByteArray) : Q := .c (.string b)
abbrev gL (l : List (List Q)) : Nat → Nat → Q := fun i j => (l.getD i []).getD j default
abbrev wrdG (a b : ByteArray) : Nat → Nat → Q := gL [[txQ a], [txQ b]]
abbrev wrdQ (a b : ByteArray) : Q := .lst [.str] 2 (wrdG a b)
/-- The fields' names. -/
def nmF : List ByteArray := [⟨#[99, 111, 117, 110, 116]⟩, ⟨#[119, 105, 100, 116, 104]⟩, ⟨#[103, 97, 112]⟩, ⟨#[114, 117, 108, 101]⟩, ⟨#[97, 117, 116, 111]⟩, ⟨#[104, 101, 105, 103, 104, 116]⟩, ⟨#[111, 114, 112, 104, 97, 110, 115]⟩, ⟨#[119, 105, 100, 111, 119, 115]⟩, ⟨#[107, 101, 101, 112]⟩, ⟨#[98, 101, 102, 111, 114, 101]⟩, ⟨#[97, 102, 116, 101, 114]⟩, ⟨#[115, 112, 97, 110]⟩, ⟨#[102, 108, 111, 97, 116]⟩, ⟨#[99, 108, 101, 97, 114]⟩, ⟨#[116, 111, 112]⟩, ⟨#[98, 111, 116, 116, 111, 109]⟩]
abbrev rowF : List (List Q) := [[txQ ⟨#[99, 111, 117, 110, 116]⟩, .c (.bool true), .clo 93 [capQ (fnQ 46)], .clo 95 [capQ (fnQ 46)]],
  [txQ ⟨#[119, 105, 100, 116, 104]⟩, .c (.bool true), .clo 97 [capQ (fnQ 48)], .clo 99 [capQ (fnQ 48)]],
  [txQ ⟨#[103, 97, 112]⟩, .c (.bool true), .clo 97 [capQ (fnQ 49)], .clo 99 [capQ (fnQ 49)]],
  [txQ ⟨#[114, 117, 108, 101]⟩, .c (.bool true), .clo 97 [capQ (fnQ 50)], .clo 99 [capQ (fnQ 50)]],
  [txQ ⟨#[97, 117, 116, 111]⟩, .c (.bool false), fnQ 101, .clo 102 [capQ (fnQ 52)]],
  [txQ ⟨#[104, 101, 105, 103, 104, 116]⟩, .c (.bool true), .clo 97 [capQ (fnQ 53)], .clo 99 [capQ (fnQ 53)]],
  [txQ ⟨#[111, 114, 112, 104, 97, 110, 115]⟩, .c (.bool true), .clo 93 [capQ (fnQ 54)], .clo 95 [capQ (fnQ 54)]],
  [txQ ⟨#[119, 105, 100, 111, 119, 115]⟩, .c (.bool true), .clo 93 [capQ (fnQ 55)], .clo 95 [capQ (fnQ 55)]],
  [txQ ⟨#[107, 101, 101, 112]⟩, .c (.bool false), fnQ 101, .clo 102 [capQ (fnQ 56)]],
  [txQ ⟨#[98, 101, 102, 111, 114, 101]⟩, .c (.bool true), .clo 103 [capQ (wrdQ ⟨#[97, 118, 111, 105, 100]⟩ ⟨#[99, 111, 108, 117, 109, 110]⟩), capQ (fnQ 58)], .clo 104 [capQ (wrdQ ⟨#[97, 118, 111, 105, 100]⟩ ⟨#[99, 111, 108, 117, 109, 110]⟩), capQ (fnQ 58)]],
  [txQ ⟨#[97, 102, 116, 101, 114]⟩, .c (.bool true), .clo 103 [capQ (wrdQ ⟨#[97, 118, 111, 105, 100]⟩ ⟨#[99, 111, 108, 117, 109, 110]⟩), capQ (fnQ 59)], .clo 104 [capQ (wrdQ ⟨#[97, 118, 111, 105, 100]⟩ ⟨#[99, 111, 108, 117, 109, 110]⟩), capQ (fnQ 59)]],
  [txQ ⟨#[115, 112, 97, 110]⟩, .c (.bool false), fnQ 101, .clo 102 [capQ (fnQ 60)]],
  [txQ ⟨#[102, 108, 111, 97, 116]⟩, .c (.bool true), .clo 103 [capQ (wrdQ ⟨#[108, 101, 102, 116]⟩ ⟨#[114, 105, 103, 104, 116]⟩), capQ (fnQ 61)], .clo 104 [capQ (wrdQ ⟨#[108, 101, 102, 116]⟩ ⟨#[114, 105, 103, 104, 116]⟩), capQ (fnQ 61)]],
  [txQ ⟨#[99, 108, 101, 97, 114]⟩, .c (.bool false), fnQ 101, .clo 102 [capQ (fnQ 62)]],
  [txQ ⟨#[116, 111, 112]⟩, .c (.bool true), .clo 97 [capQ (fnQ 63)], .clo 99 [capQ (fnQ 63)]],
  [txQ ⟨#[98, 111, 116, 116, 111, 109]⟩, .c (.bool true), .clo 97 [capQ (fnQ 64)], .clo 99 [capQ (fnQ 64)]]]
abbrev ksF : List K := [.str, .bool, .any, .any]
abbrev gFd : Nat → Nat → Q := gL rowF
def fields.s : List V → T V
  | [] => .leaf (.q (.lst ksF 16 gFd))
  | _ => .bad
noncomputable abbrev ΓFd : Gam := [(45, count.s), (47, length.s), (51, flag.s), (57, word.s)]
theorem ΓFd.ok : GOK Tryz.prog ΓFd := .cons count.ok (.cons length.ok (.cons flag.ok (.cons word.ok (GOK.nil _))))
theorem fields.ok : SpecOK Tryz.prog 28 fields.s := by
  refine okF ΓFd.ok Tryz.func28 (by kernel_rfl) (by kernel_rfl) fun args r hb hr => ?_
  unfold fields.s at hr
  split at hr
  · exact ⟨[], LamOK.nil _ _, (congrArg T.pick (show funV Tryz.prog ΓFd [] Tryz.f28 (cod Tryz.f28) [] = .leaf (.q (.lst ksF 16 gFd)) by kernel_rfl)).trans hr⟩
  · cases hr

/-! ### keeps -/
abbrev esK : List (Value × List Q) := [(.string ⟨#[99, 111, 117, 110, 116]⟩, [fnQ 74]), (.string ⟨#[119, 105, 100, 116, 104]⟩, [fnQ 75]), (.string ⟨#[103, 97, 112]⟩, [fnQ 76]), (.string ⟨#[114, 117, 108, 101]⟩, [fnQ 77]), (.string ⟨#[97, 117, 116, 111]⟩, [fnQ 78]), (.string ⟨#[104, 101, 105, 103, 104, 116]⟩, [fnQ 79]), (.string ⟨#[111, 114, 112, 104, 97, 110, 115]⟩, [fnQ 80]), (.string ⟨#[119, 105, 100, 111, 119, 115]⟩, [fnQ 81]), (.string ⟨#[107, 101, 101, 112]⟩, [fnQ 82]), (.string ⟨#[98, 101, 102, 111, 114, 101]⟩, [fnQ 83]), (.string ⟨#[97, 102, 116, 101, 114]⟩, [fnQ 84]), (.string ⟨#[115, 112, 97, 110]⟩, [fnQ 85]), (.string ⟨#[102, 108, 111, 97, 116]⟩, [fnQ 86]), (.string ⟨#[99, 108, 101, 97, 114]⟩, [fnQ 87]), (.string ⟨#[116, 111, 112]⟩, [fnQ 88]), (.string ⟨#[98, 111, 116, 116, 111, 109]⟩, [fnQ 89])]
abbrev obK : Ob := .map (.one .str) false [.any] esK
def keeps.s : Option Ob → List V → T XOut
  | none, [] => .leaf ⟨none, some obK, .mp 1⟩
  | _, _ => .bad
theorem keeps.ok : SpecX Tryz.prog 39 false keeps.s := by
  refine specX_of_bodyW (ho := false) (GOK.nil _) Tryz.func39 (isBody _ (by kernel_rfl)) (by kernel_rfl) fun ls args x hl hb he => ?_
  unfold keeps.s at he
  split at he
  · exact ⟨_, [], .rfl, LamOK.nil _ _, (congrArg T.pick (show funX Tryz.prog [] [] Tryz.f39 (cod Tryz.f39) false none [] = .leaf ⟨none, some obK, .mp 1⟩ by kernel_rfl)).trans he⟩
  · cases he

/-! ### IndexFunc -/
abbrev lF (n : Nat) (g : Nat → Nat → Q) : V := .q (.lst ksF n g)
abbrev rowV (g : Nat → Nat → Q) (i : Nat) : V := .agg [.q (nrm .str (g i 0)), .q (nrm .bool (g i 1)), .q (g i 2), .q (g i 3)]
def part1.s : List V → T V
  | [.agg [.q (.c (.string a)), .q (.c (.bool b)), .q x, .q y], .q (.sp 1 get)] => (match get 0 with
    | .c (.string nm) => .leaf (V.b (seqB a nm))
    | _ => .bad)
  | _ => .bad
theorem part1.ok : SpecOK Tryz.prog 68 part1.s := by
  refine okF (GOK.nil _) Tryz.func68 (by kernel_rfl) (by kernel_rfl) fun args r hb hr => ?_
  unfold part1.s at hr
  split at hr
  · rename_i a b x y get
    split at hr
    · rename_i nm hn
      rw [gC_eq get hn]
      exact ⟨[], LamOK.nil _ _, (congrArg T.pick (show funV Tryz.prog [] [] Tryz.f68 (cod Tryz.f68) [.agg [.q (.c (.string a)), .q (.c (.bool b)), .q x, .q y], .q (.sp 1 (gC (.c (.string nm)) fun i => get (i + 1)))] = .leaf (V.b (seqB a nm)) by kernel_rfl)).trans hr⟩
    · cases hr
  · cases hr
noncomputable abbrev bodyIf : Code := loopAt Tryz.f67 [0, 1, 0, 1]
abbrev cloI (nm : ByteArray) (h : Nat → Q) : V := .clo 68 [.q (.sp 1 (gC (txQ nm) h))]
def SIf (nm : ByteArray) (h : Nat → Q) (n : Nat) (g : Nat → Nat → Q) (i : Int) : St := mkS 19 [(0, lF n g), (1, cloI nm h), (7, V.i n), (8, V.i i)] [] [] false [] 0
abbrev ΓIf : Gam := [(68, part1.s)]
theorem ΓIf.ok : GOK Tryz.prog ΓIf := .cons part1.ok (GOK.nil _)
noncomputable abbrev treeIf (s : St) : T (Ex × St × Bool) := ltree Tryz.prog ΓIf [] [0, 1, 0, 1] bodyIf 19 0 liveIx poN s
abbrev qIf (s : ByteArray) (g : Nat → Nat → Q) (i : Nat) : Bool := seqB (qStr (g i 0)) s
theorem stepIf (nm : ByteArray) (h : Nat → Q) (n : Nat) (g : Nat → Nat → Q) (i : Nat) : treeIf (SIf nm h n g i) =
    .ite (decide ((i : Int) < n)) (.ite (inI i n) (.ite (qIf nm g i) (.leaf (.ret, mkS 19 [(4, V.i i)] [] [] false [] 0, true)) (.leaf (.normal, SIf nm h n g (w64 (i + 1)), true))) .bad) (.leaf (.exit 0, mkS 19 [] [] [] false [] 0, true)) := by kernel_rfl
theorem loopIf (nm : ByteArray) (h : Nat → Q) (n : Nat) (g : Nat → Nat → Q) (hn : n ≤ 9223372036854775807) : ∀ x, (T.ite (fstN n (qIf nm g)).isSome (.leaf (Ex.ret, mkS 19 [(4, V.i ((fstN n (qIf nm g)).getD 0 : Nat))] [] [] false [] 0)) (.leaf (.exit 0, mkS 19 [] [] [] false [] 0))).pick = some x → SemC Tryz.prog (.loop bodyIf) (SIf nm h n g (0 : Nat)) x := by
  refine loopFnd ΓIf.ok (root := cod Tryz.f67) (p := [0, 1, 0, 1]) (by kernel_rfl) hn (fun i => SIf nm h n g i) (qIf nm g) (fun i => mkS 19 [(4, V.i (i : Nat))] [] [] false [] 0) _ 19 0 liveIx poN poN_ok (fun i hlt hq => ?_) (fun i hlt hq => ?_) ?_
  · exact (congrArg T.pick (stepIf nm h n g i)).trans (by rw [c_lt hlt, c_inI hlt, hq]; rfl)
  · exact (congrArg T.pick (stepIf nm h n g i)).trans (by rw [c_lt hlt, c_inI hlt, hq]; rfl)
  · exact (congrArg T.pick (stepIf nm h n g n)).trans (by rw [c_ge (Nat.le_refl _)]; rfl)
def indexF.s : List V → T V
  | [.q (.lst [.str, .bool, .any, .any] n g), .clo f [.q (.sp 1 get)]] => (match get 0 with
    | .c (.string nm) => if f = 68 then .leaf (V.i (idxI (fstN n (qIf nm g)))) else .bad
    | _ => .bad)
  | _ => .bad
theorem indexF.ok : SpecOK Tryz.prog 67 indexF.s := by
  refine okF ΓIf.ok Tryz.func67 (by kernel_rfl) (by kernel_rfl) fun args r hb hr => ?_
  unfold indexF.s at hr
  split at hr
  · rename_i n g f get
    split at hr
    · rename_i nm hnm
      split at hr
      · rename_i hf
        subst hf
        have hn : n ≤ 9223372036854775807 := (hb (lF n g) (by simp)).1
        rw [gC_eq get hnm]
        refine ⟨_, LamOK.orc (p := [0, 1, 0, 1]) (mk := false) (nn := 19) (k := 0) (live := liveIx .normal) (c := .loop bodyIf) (by kernel_rfl) (loopIf nm (fun i => get (i + 1)) n g hn) (LamOK.nil _ _), ?_⟩
        have e : ∀ q k, funV Tryz.prog ΓIf [([0, 1, 0, 1], orc false 19 0 (liveIx .normal) (SIf nm (fun i => get (i + 1)) n g (0 : Nat)) (.ite q (.leaf (Ex.ret, mkS 19 [(4, V.i k)] [] [] false [] 0)) (.leaf (.exit 0, mkS 19 [] [] [] false [] 0))))] Tryz.f67 (cod Tryz.f67) [lF n g, cloI nm (fun i => get (i + 1))] =
            .ite (@decide (SIf nm (fun i => get (i + 1)) n g (0 : Nat) = SIf nm (fun i => get (i + 1)) n g (0 : Nat)) (Classical.propDecidable _)) (.ite q (.leaf (V.i k)) (.leaf (V.i (-1)))) .bad := fun q k => by kernel_rfl
        refine (congrArg T.pick (e _ _)).trans ?_
        rw [← hr]
        refine (pick_same _ _).trans ?_
        rw [pick_ite, idxI]
        cases (fstN n (qIf nm g)).isSome <;> rfl
      · cases hr
    · cases hr
  · cases hr
end Go.Proofs.YtgmeglodnhagdaaGreatDoor

/-! ## StF -/
namespace Go.Proofs.YtgmeglodnhagdaaGreatDoor
open Go Go.SX Go.Proofs
set_option maxRecDepth 100000
variable [EA]
set_option linter.unusedVariables false
set_option linter.unusedSectionVars false
set_option linter.unusedSimpArgs false

abbrev styQ (s : Sty) : List Q := [.c (.int .i64 s.c), .c (.int .i64 s.w), .c (.int .i64 s.g), .c (.int .i64 s.r), .c (.bool s.a), .c (.int .i64 s.h), .c (.int .i64 s.o), .c (.int .i64 s.wi), .c (.bool s.k), .c (.int .i64 s.b), .c (.int .i64 s.af), .c (.bool s.sp), .c (.int .i64 s.si), .c (.bool s.cl), .c (.int .i64 s.t), .c (.int .i64 s.bo)]
/-- Cells of which the first are given. -/
def gS : List Q → (Nat → Q) → Nat → Q
  | [], g => g
  | q :: l, g => gC q (gS l g)
theorem gS_eq : ∀ (l : List Q) (g : Nat → Q), (∀ j q, l[j]? = some q → g j = q) → g = gS l fun i => g (i + l.length)
  | [], g, h => rfl
  | q :: l, g, h => by
    have e := gS_eq l (fun i => g (i + 1)) fun j q hq => h (j + 1) q (by simpa using hq)
    rw [gS]
    refine (gC_eq g (h 0 q rfl)).trans (congrArg (gC q) ?_)
    exact e
abbrev sp16 (s : Sty) (g : Nat → Q) : V := .q (.sp 16 (gS (styQ s) g))
noncomputable abbrev bodyDf : Code := loopAt Tryz.f38 [0, 1, 1, 1, 0]
def SDf (go : List (List V) → Bool) (adm : List (List V) → List V → Bool) (a b : Sty) (g h : Nat → Q) (ys : List (List V)) (i : Int) : St :=
  mkS 32 [(0, .yld 0), (1, sp16 a g), (2, sp16 b h), (4, .mp 1), (9, lF 16 gFd), (10, V.i 16), (11, V.i i)] [some (.yl go adm), some obK] [] false ys 0
def liveDf : Ex → List Nat | .normal => [0, 1, 2, 4, 9, 10, 11] | _ => []
abbrev ΓDf : Gam := [(74, .x true (keepS 0)), (75, .x true (keepS 1)), (76, .x true (keepS 2)), (77, .x true (keepS 3)), (78, .x true (keepS 4)), (79, .x true (keepS 5)), (80, .x true (keepS 6)), (81, .x true (keepS 7)), (82, .x true (keepS 8)), (83, .x true (keepS 9)), (84, .x true (keepS 10)), (85, .x true (keepS 11)), (86, .x true (keepS 12)), (87, .x true (keepS 13)), (88, .x true (keepS 14)), (89, .x true (keepS 15)), (28, fields.s), (39, .x false keeps.s)]
theorem ΓDf.ok : GOK Tryz.prog ΓDf := .consX keep0.ok (.consX keep1.ok (.consX keep2.ok (.consX keep3.ok (.consX keep4.ok (.consX keep5.ok (.consX keep6.ok (.consX keep7.ok (.consX keep8.ok (.consX keep9.ok (.consX keep10.ok (.consX keep11.ok (.consX keep12.ok (.consX keep13.ok (.consX keep14.ok (.consX keep15.ok (.cons fields.ok (.consX keeps.ok (GOK.nil _))))))))))))))))))
noncomputable abbrev treeDf (s : St) : T (Ex × St × Bool) := (sx Tryz.prog ΓDf [] [0, 0, 1, 1, 1, 0] bodyDf s).bind (fun x => T.leaf (x.1, deadS [] (canS 32 2 (liveDf x.1) x.2), chkM 32 2 x.2))
/-- Are two styles one? -/
def styEq (x y : Sty) : Bool := bif x.c == y.c then (bif x.w == y.w then (bif x.g == y.g then (bif x.r == y.r then (bif x.a == y.a then (bif x.h == y.h then (bif x.o == y.o then (bif x.wi == y.wi then (bif x.k == y.k then (bif x.b == y.b then (bif x.af == y.af then (bif x.sp == y.sp then (bif x.si == y.si then (bif x.cl == y.cl then (bif x.t == y.t then (bif x.bo == y.bo then true else false) else false) else false) else false) else false) else false) else false) else false) else false) else false) else false) else false) else false) else false) else false) else false
def difB (a b : Sty) (i : Nat) : Bool := !(styEq (setF a b i) a)
abbrev xRow (i : Nat) : List V := [rowV gFd i]
def FDf (go : List (List V) → Bool) (adm : List (List V) → List V → Bool) (ys : List (List V)) : Ex × St := (.exit 0, mkS 32 [] [some (.yl go adm), some obK] [] false ys 0)
abbrev tDf (go : List (List V) → Bool) (adm : List (List V) → List V → Bool) (a b : Sty) (g h : Nat → Q) (ys : List (List V)) (i : Nat) : T (Ex × St × Bool) :=
  .ite true (.ite true (.ite (difB a b i) (.ite (adm ys (xRow i)) (.ite (!(go (ys ++ [xRow i]))) (.leaf ((FDf go adm (ys ++ [xRow i])).1, (FDf go adm (ys ++ [xRow i])).2, true)) (.leaf (.normal, SDf go adm a b g h (ys ++ [xRow i]) ((i + 1 : Nat) : Int), true))) .bad)
    (.leaf (.normal, SDf go adm a b g h ys ((i + 1 : Nat) : Int), true))) .bad) (.leaf ((FDf go adm ys).1, (FDf go adm ys).2, true))
theorem stepDf0 (go : List (List V) → Bool) (adm : List (List V) → List V → Bool) (a b : Sty) (g h : Nat → Q) (ys : List (List V)) : treeDf (SDf go adm a b g h ys ((0 : Nat) : Int)) = tDf go adm a b g h ys 0 := by kernel_rfl
theorem stepDf1 (go : List (List V) → Bool) (adm : List (List V) → List V → Bool) (a b : Sty) (g h : Nat → Q) (ys : List (List V)) : treeDf (SDf go adm a b g h ys ((1 : Nat) : Int)) = tDf go adm a b g h ys 1 := by kernel_rfl
theorem stepDf2 (go : List (List V) → Bool) (adm : List (List V) → List V → Bool) (a b : Sty) (g h : Nat → Q) (ys : List (List V)) : treeDf (SDf go adm a b g h ys ((2 : Nat) : Int)) = tDf go adm a b g h ys 2 := by kernel_rfl
theorem stepDf3 (go : List (List V) → Bool) (adm : List (List V) → List V → Bool) (a b : Sty) (g h : Nat → Q) (ys : List (List V)) : treeDf (SDf go adm a b g h ys ((3 : Nat) : Int)) = tDf go adm a b g h ys 3 := by kernel_rfl
theorem stepDf4 (go : List (List V) → Bool) (adm : List (List V) → List V → Bool) (a b : Sty) (g h : Nat → Q) (ys : List (List V)) : treeDf (SDf go adm a b g h ys ((4 : Nat) : Int)) = tDf go adm a b g h ys 4 := by kernel_rfl
theorem stepDf5 (go : List (List V) → Bool) (adm : List (List V) → List V → Bool) (a b : Sty) (g h : Nat → Q) (ys : List (List V)) : treeDf (SDf go adm a b g h ys ((5 : Nat) : Int)) = tDf go adm a b g h ys 5 := by kernel_rfl
theorem stepDf6 (go : List (List V) → Bool) (adm : List (List V) → List V → Bool) (a b : Sty) (g h : Nat → Q) (ys : List (List V)) : treeDf (SDf go adm a b g h ys ((6 : Nat) : Int)) = tDf go adm a b g h ys 6 := by kernel_rfl
theorem stepDf7 (go : List (List V) → Bool) (adm : List (List V) → List V → Bool) (a b : Sty) (g h : Nat → Q) (ys : List (List V)) : treeDf (SDf go adm a b g h ys ((7 : Nat) : Int)) = tDf go adm a b g h ys 7 := by kernel_rfl
theorem stepDf8 (go : List (List V) → Bool) (adm : List (List V) → List V → Bool) (a b : Sty) (g h : Nat → Q) (ys : List (List V)) : treeDf (SDf go adm a b g h ys ((8 : Nat) : Int)) = tDf go adm a b g h ys 8 := by kernel_rfl
theorem stepDf9 (go : List (List V) → Bool) (adm : List (List V) → List V → Bool) (a b : Sty) (g h : Nat → Q) (ys : List (List V)) : treeDf (SDf go adm a b g h ys ((9 : Nat) : Int)) = tDf go adm a b g h ys 9 := by kernel_rfl
theorem stepDf10 (go : List (List V) → Bool) (adm : List (List V) → List V → Bool) (a b : Sty) (g h : Nat → Q) (ys : List (List V)) : treeDf (SDf go adm a b g h ys ((10 : Nat) : Int)) = tDf go adm a b g h ys 10 := by kernel_rfl
theorem stepDf11 (go : List (List V) → Bool) (adm : List (List V) → List V → Bool) (a b : Sty) (g h : Nat → Q) (ys : List (List V)) : treeDf (SDf go adm a b g h ys ((11 : Nat) : Int)) = tDf go adm a b g h ys 11 := by kernel_rfl
theorem stepDf12 (go : List (List V) → Bool) (adm : List (List V) → List V → Bool) (a b : Sty) (g h : Nat → Q) (ys : List (List V)) : treeDf (SDf go adm a b g h ys ((12 : Nat) : Int)) = tDf go adm a b g h ys 12 := by kernel_rfl
theorem stepDf13 (go : List (List V) → Bool) (adm : List (List V) → List V → Bool) (a b : Sty) (g h : Nat → Q) (ys : List (List V)) : treeDf (SDf go adm a b g h ys ((13 : Nat) : Int)) = tDf go adm a b g h ys 13 := by kernel_rfl
theorem stepDf14 (go : List (List V) → Bool) (adm : List (List V) → List V → Bool) (a b : Sty) (g h : Nat → Q) (ys : List (List V)) : treeDf (SDf go adm a b g h ys ((14 : Nat) : Int)) = tDf go adm a b g h ys 14 := by kernel_rfl
theorem stepDf15 (go : List (List V) → Bool) (adm : List (List V) → List V → Bool) (a b : Sty) (g h : Nat → Q) (ys : List (List V)) : treeDf (SDf go adm a b g h ys ((15 : Nat) : Int)) = tDf go adm a b g h ys 15 := by kernel_rfl
theorem stepDf (go : List (List V) → Bool) (adm : List (List V) → List V → Bool) (a b : Sty) (g h : Nat → Q) (ys : List (List V)) : ∀ i, i < 16 → treeDf (SDf go adm a b g h ys ((i : Nat) : Int)) = tDf go adm a b g h ys i
  | 0, _ => stepDf0 go adm a b g h ys
  | 1, _ => stepDf1 go adm a b g h ys
  | 2, _ => stepDf2 go adm a b g h ys
  | 3, _ => stepDf3 go adm a b g h ys
  | 4, _ => stepDf4 go adm a b g h ys
  | 5, _ => stepDf5 go adm a b g h ys
  | 6, _ => stepDf6 go adm a b g h ys
  | 7, _ => stepDf7 go adm a b g h ys
  | 8, _ => stepDf8 go adm a b g h ys
  | 9, _ => stepDf9 go adm a b g h ys
  | 10, _ => stepDf10 go adm a b g h ys
  | 11, _ => stepDf11 go adm a b g h ys
  | 12, _ => stepDf12 go adm a b g h ys
  | 13, _ => stepDf13 go adm a b g h ys
  | 14, _ => stepDf14 go adm a b g h ys
  | 15, _ => stepDf15 go adm a b g h ys
  | n + 16, hn => by omega
theorem stepDfE (go : List (List V) → Bool) (adm : List (List V) → List V → Bool) (a b : Sty) (g h : Nat → Q) (ys : List (List V)) : (treeDf (SDf go adm a b g h ys ((16 : Nat) : Int))).pick = some ((FDf go adm ys).1, (FDf go adm ys).2, true) := by
  have e1 : (treeDf (SDf go adm a b g h ys ((16 : Nat) : Int))).pathC [false] = [false] := by kernel_rfl
  have e2 : (treeDf (SDf go adm a b g h ys ((16 : Nat) : Int))).pathL [false] = .leaf ((FDf go adm ys).1, (FDf go adm ys).2, true) := by kernel_rfl
  exact (T.pick_path _ _ e1).trans (by rw [e2]; rfl)
end Go.Proofs.YtgmeglodnhagdaaGreatDoor

/-! ## StG -/
namespace Go.Proofs.YtgmeglodnhagdaaGreatDoor
open Go Go.SX Go.Proofs
set_option maxRecDepth 100000
variable [EA]
set_option linter.unusedVariables false
set_option linter.unusedSectionVars false
set_option linter.unusedSimpArgs false

/-- The fields, of the first i, in which two differ. -/
def dfs (a b : Sty) (i : Nat) : List Nat := (List.range i).filter (difB a b)
def xDf (a b : Sty) (k : Nat) : List V := xRow ((dfs a b 16).getD k 0)
theorem dfs_succ (a b : Sty) (i : Nat) : dfs a b (i + 1) = dfs a b i ++ (if difB a b i then [i] else []) := by
  unfold dfs
  rw [List.range_succ, List.filter_append]
  congr 1
  by_cases hh : difB a b i = true
  · rw [if_pos hh]; simp [hh]
  · rw [if_neg hh]; simp [hh]
theorem dfs_prefix (a b : Sty) {i n : Nat} (hi : i ≤ n) : ∃ l, dfs a b n = dfs a b i ++ l := by
  induction n with
  | zero => exact ⟨[], by rw [show i = 0 by omega]; simp⟩
  | succ n ih =>
    by_cases e : i = n + 1
    · exact ⟨[], by rw [e]; simp⟩
    · obtain ⟨l, hl⟩ := ih (by omega)
      exact ⟨l ++ (if difB a b n then [n] else []), by rw [dfs_succ, hl, List.append_assoc]⟩
theorem xDf_at {a b : Sty} {i : Nat} (hi : i < 16) (hh : difB a b i = true) : xDf a b (dfs a b i).length = xRow i := by
  obtain ⟨l, hl⟩ := dfs_prefix a b (show i + 1 ≤ 16 from hi)
  unfold xDf
  rw [hl, dfs_succ, if_pos hh]
  simp [List.getD_eq_getElem?_getD]
theorem dfs_lt {a b : Sty} {i : Nat} (hi : i < 16) (hh : difB a b i = true) : (dfs a b i).length < (dfs a b 16).length := by
  obtain ⟨l, hl⟩ := dfs_prefix a b (show i + 1 ≤ 16 from hi)
  rw [hl, dfs_succ, if_pos hh]
  simp
theorem dfs_mem {a b : Sty} {n k : Nat} (hk : k < (dfs a b n).length) : (dfs a b n).getD k 0 < n := by
  have h : (dfs a b n)[k] ∈ dfs a b n := List.getElem_mem hk
  rw [List.getD_eq_getElem?_getD, List.getElem?_eq_getElem hk]
  exact List.mem_range.1 (List.mem_filter.1 h).1
theorem loopDf (go : List (List V) → Bool) (adm : List (List V) → List V → Bool) (a b : Sty) (g h : Nat → Q) (hadm : Admits go adm (dfs a b 16).length (xDf a b)) (K : Nat) (hK : Stops go (xDf a b) (dfs a b 16).length K) :
    ∀ x, (T.leaf (FDf go adm (hist (xDf a b) K))).pick = some x → SemC Tryz.prog (.loop bodyDf) (SDf go adm a b g h [] (0 : Nat)) x := by
  refine loop_tree (Γ := ΓDf) ΓDf.ok (root := cod Tryz.f38) (p := [0, 1, 1, 1, 0]) (by kernel_rfl) (fun i => i ≤ 16 ∧ ∀ j, j < (dfs a b i).length → go (hist (xDf a b) (j + 1)) = true)
    (fun i => SDf go adm a b g h (hist (xDf a b) (dfs a b i).length) (i : Nat)) (fun i => 16 - i) (.leaf (FDf go adm (hist (xDf a b) K))) 32 2 liveDf (fun _ => []) (fun i hi => ?_) 0 ⟨Nat.zero_le _, fun j hj => absurd hj (by simp [dfs])⟩
  obtain ⟨hi, hall⟩ := hi
  rcases Nat.lt_or_ge i 16 with hlt | hge
  · have e := stepDf go adm a b g h (hist (xDf a b) (dfs a b i).length) i hlt
    cases hh : difB a b i with
    | false =>
      have e2 : dfs a b (i + 1) = dfs a b i := by rw [dfs_succ, hh]; simp
      exact ⟨[], .normal, SDf go adm a b g h (hist (xDf a b) (dfs a b (i + 1)).length) (i + 1 : Nat), LamOK.nil _ _, (congrArg T.pick e).trans (by unfold tDf; rw [hh, e2]; rfl), .inl ⟨rfl, i + 1, ⟨hlt, by rw [e2]; exact hall⟩, by omega, rfl⟩⟩
    | true =>
      have e2 : (dfs a b (i + 1)).length = (dfs a b i).length + 1 := by rw [dfs_succ, hh]; simp
      have e3 := xDf_at hlt hh
      have hl := dfs_lt hlt hh
      have ha := hadm _ hl hall
      unfold tDf at e
      rw [← e3, ← hist_succ] at e
      cases hr : go (hist (xDf a b) ((dfs a b i).length + 1)) with
      | false => exact ⟨[], .exit 0, _, LamOK.nil _ _, (congrArg T.pick e).trans (by rw [hh, ha, hr]; rfl), .inr ⟨by simp, by rw [stops_at hK hl hall hr]; rfl⟩⟩
      | true =>
        refine ⟨[], .normal, SDf go adm a b g h (hist (xDf a b) (dfs a b (i + 1)).length) (i + 1 : Nat), LamOK.nil _ _, (congrArg T.pick e).trans (by rw [hh, ha, hr, e2]; rfl), .inl ⟨rfl, i + 1, ⟨hlt, fun j hj => ?_⟩, by omega, rfl⟩⟩
        rw [e2] at hj
        rcases Nat.lt_or_ge j (dfs a b i).length with hj' | hj'
        · exact hall j hj'
        · rw [show j = (dfs a b i).length by omega]; exact hr
  · have hin : i = 16 := by omega
    subst hin
    exact ⟨[], .exit 0, _, LamOK.nil _ _, stepDfE go adm a b g h _, .inr ⟨by simp, by rw [stops_end hK hall]; rfl⟩⟩
/-- A captured style. -/
abbrev a16 (g : Nat → Q) : V := .agg [.q (g 0), .q (g 1), .q (g 2), .q (g 3), .q (g 4), .q (g 5), .q (g 6), .q (g 7), .q (g 8), .q (g 9), .q (g 10), .q (g 11), .q (g 12), .q (g 13), .q (g 14), .q (g 15)]
theorem a16_eq {g : Nat → Q} {s : Sty} (h : a16 g = styV s) : g = gS (styQ s) fun i => g (i + 16) := by
  have h2 : (List.range 16).map g = styQ s := by
    simp only [V.agg.injEq, List.cons.injEq, V.q.injEq, and_true] at h
    obtain ⟨h0, h1, h2, h3, h4, h5, h6, h7, h8, h9, h10, h11, h12, h13, h14, h15⟩ := h
    show [g 0, g 1, g 2, g 3, g 4, g 5, g 6, g 7, g 8, g 9, g 10, g 11, g 12, g 13, g 14, g 15] = _
    rw [h0, h1, h2, h3, h4, h5, h6, h7, h8, h9, h10, h11, h12, h13, h14, h15]
  refine gS_eq (styQ s) g fun j q hq => ?_
  rw [← h2] at hq
  simp only [List.getElem?_map] at hq
  cases hr : (List.range 16)[j]? with
  | none => rw [hr] at hq; cases hq
  | some k =>
    rw [hr] at hq
    have : k = j := by
      have := List.getElem?_eq_some_iff.1 hr
      obtain ⟨h1, h2⟩ := this
      simpa using h2.symm
    subst this
    simpa using hq
/-- What differ goes through. -/
def differI.s : List V → T (Nat × (Nat → List V))
  | [.q (.sp 16 ga), .q (.sp 16 gb)] => onSt (a16 ga) fun a => onSt (a16 gb) fun b => .leaf ((dfs a b 16).length, xDf a b)
  | _ => .bad
theorem differI.ok : IterOK Tryz.prog 38 differI.s := by
  refine iterOK_of_body (Γ := ΓDf) ΓDf.ok Tryz.func38 (isBody _ (by kernel_rfl)) (by kernel_rfl) fun caps N x go adm hb he hadm => ?_
  unfold differI.s at he
  split at he
  · rename_i ga gb
    obtain ⟨a, ha, he2⟩ := onSt_pick he
    obtain ⟨b, hbb, he3⟩ := onSt_pick he2
    cases he3
    rw [a16_eq ha, a16_eq hbb]
    obtain ⟨K, hK⟩ := exists_stops go (xDf a b) (dfs a b 16).length
    refine ⟨_, [([0, 1, 1, 1, 0], orc false 32 2 (liveDf .normal) (SDf go adm a b (fun i => ga (i + 16)) (fun i => gb (i + 16)) [] (0 : Nat)) (.leaf (FDf go adm (hist (xDf a b) K))))], K, fun _ _ _ h => h,
      LamOK.orc (c := .loop bodyDf) (by kernel_rfl) (loopDf go adm a b _ _ hadm K hK) (LamOK.nil _ _), hK, ?_⟩
    have e : ∀ ys, itV Tryz.prog ΓDf [([0, 1, 1, 1, 0], orc false 32 2 (liveDf .normal) (SDf go adm a b (fun i => ga (i + 16)) (fun i => gb (i + 16)) [] (0 : Nat)) (.leaf (FDf go adm ys)))] Tryz.f38 (cod Tryz.f38) [sp16 a (fun i => ga (i + 16)), sp16 b (fun i => gb (i + 16))] go adm =
        .ite (@decide (SDf go adm a b (fun i => ga (i + 16)) (fun i => gb (i + 16)) [] (0 : Nat) = SDf go adm a b (fun i => ga (i + 16)) (fun i => gb (i + 16)) [] (0 : Nat)) (Classical.propDecidable _)) (.leaf ys) .bad := fun ys => by kernel_rfl
    rw [e, pick_same]; rfl
  · cases he
abbrev spA (s : Sty) : Q := .sp 16 fun j => (styQ s).getD j default
abbrev difC (a b : Sty) : List V := [.q (spA a), .q (spA b)]
def sty2 (F : Sty → Sty → T V) : List V → T V
  | [x, y] => onSt x fun a => onSt y fun b => F a b
  | _ => .bad
theorem ok2 {f : Nat} {fn : Func} {F : Sty → Sty → T V} {Γ : Gam} (hΓ : GOK Tryz.prog Γ) (hf : Tryz.prog.funcs[f]? = some fn) (hb : fn.body.isSome = true) (hent : entersB Tryz.prog f = true) (h : ∀ a b r, (F a b).pick = some r → ∃ Λ, LamOK Tryz.prog (cod fn) Λ ∧ (funV Tryz.prog Γ Λ fn (cod fn) [styV a, styV b]).pick = some r) : SpecOK Tryz.prog f (sty2 F) := by
  refine okF hΓ hf hb hent fun args r hb hr => ?_
  unfold sty2 at hr
  split at hr
  · obtain ⟨a, rfl, hr2⟩ := onSt_pick hr
    obtain ⟨b, rfl, hr3⟩ := onSt_pick hr2
    exact h a b r hr3
  · cases hr
abbrev differ.s := sty2 fun a b => .leaf (.clo 38 (difC a b))
theorem differ.ok : SpecOK Tryz.prog 24 differ.s := ok2 (GOK.nil _) Tryz.func24 (by kernel_rfl) (by kernel_rfl) fun a b r hr => ⟨[], LamOK.nil _ _, (congrArg T.pick (show funV Tryz.prog [] [] Tryz.f24 (cod Tryz.f24) [styV a, styV b] = .leaf (.clo 38 (difC a b)) by kernel_rfl)).trans hr⟩
end Go.Proofs.YtgmeglodnhagdaaGreatDoor

/-! ## StH -/
namespace Go.Proofs.YtgmeglodnhagdaaGreatDoor
open Go Go.SX Go.Proofs
set_option maxRecDepth 100000
variable [EA]
set_option linter.unusedVariables false
set_option linter.unusedSectionVars false
set_option linter.unusedSimpArgs false

abbrev pDs : List Nat := [0, 1, 0, 1, 1]
noncomputable abbrev rfDs : Code × Code := rfAt Tryz.f22 pDs
abbrev celS (s : Sty) : Option Ob := some (.cells 23 (styL s))
abbrev celT (x : V) : Option Ob := some (.cells 35 [x])
abbrev nilT : V := .q (.c (.slice none 0 0))
abbrev vecT (l : List ByteArray) : Option Ob := some (.vec 9 [.str] l.length (gOf strQ l))
abbrev loDs (a b : Sty) (l : List ByteArray) : Nat → List (Option Ob)
  | 0 => [celS a, celS b, celT nilT]
  | _ + 1 => [celS a, celS b, celT (.own 6), vecT l]
def SDs (a b : Sty) : St := mkS 17 [(5, .ptr 2 0), (9, .clo 38 (difC a b))] (loDs a b [] 0) [] false [] 0
abbrev any17 : List V := List.replicate 17 .any
def postDs : Nat → St → St
  | 0, s => mvL [(7, 6)] s
  | _ + 1, s => mvL [(8, 6)] s
theorem postDs_ok (k : Nat) (s : St) : Sub Tryz.prog s (postDs k s) := by
  cases k with
  | zero => exact sub_mvL _ _
  | succ k => exact sub_mvL _ _
noncomputable abbrev roundDs (a b : Sty) (k : Nat) (L : List (Option Ob)) (i : Nat) (rec rec' : Loop) : T (Ex × St × Bool) :=
  roundP (postDs k) Tryz.prog [] [] pDs rfDs.1 rfDs.2 [10] (SDs a b) (some .dfr) 7 L [] (xRow i) rec rec'
abbrev nmB (i : Nat) : ByteArray := nmF.getD i ⟨#[]⟩
noncomputable abbrev recT (rec : Loop) (t : T (Ex × St × Bool)) : T (Ex × St × Bool) := .ite (@decide ((some (some (Ob.raw (.loop rec))) : Option (Option Ob)) = some (some (.raw (.loop rec)))) (Classical.propDecidable _)) t .bad

theorem rDs0_0 (a b : Sty) (rec rec2 : Loop) : roundDs a b 0 (loDs a b [] 0) 0 rec rec2 = recT rec (.ite (roomB 0 1 16) (.leaf (.normal, midS (SDs a b) (loDs a b [nmB 0] 1) [] (some .dfr) rec2 any17, true)) .bad) := by kernel_rfl
theorem rDs1_0 (a b : Sty) (l : List ByteArray) (k : Nat) (rec rec2 : Loop) : roundDs a b (k + 1) (loDs a b l (k + 1)) 0 rec rec2 = recT rec (.ite (roomB l.length 1 16) (.leaf (.normal, midS (SDs a b) [celS a, celS b, celT (.own 6), some (.vec 9 [.str] (l.length + 1) (catG l.length (gOf strQ l) (rows [strQ (nmB 0)])))] [] (some .dfr) rec2 any17, true)) .bad) := by kernel_rfl
theorem rDs0_1 (a b : Sty) (rec rec2 : Loop) : roundDs a b 0 (loDs a b [] 0) 1 rec rec2 = recT rec (.ite (roomB 0 1 16) (.leaf (.normal, midS (SDs a b) (loDs a b [nmB 1] 1) [] (some .dfr) rec2 any17, true)) .bad) := by kernel_rfl
theorem rDs1_1 (a b : Sty) (l : List ByteArray) (k : Nat) (rec rec2 : Loop) : roundDs a b (k + 1) (loDs a b l (k + 1)) 1 rec rec2 = recT rec (.ite (roomB l.length 1 16) (.leaf (.normal, midS (SDs a b) [celS a, celS b, celT (.own 6), some (.vec 9 [.str] (l.length + 1) (catG l.length (gOf strQ l) (rows [strQ (nmB 1)])))] [] (some .dfr) rec2 any17, true)) .bad) := by kernel_rfl
theorem rDs0_2 (a b : Sty) (rec rec2 : Loop) : roundDs a b 0 (loDs a b [] 0) 2 rec rec2 = recT rec (.ite (roomB 0 1 16) (.leaf (.normal, midS (SDs a b) (loDs a b [nmB 2] 1) [] (some .dfr) rec2 any17, true)) .bad) := by kernel_rfl
theorem rDs1_2 (a b : Sty) (l : List ByteArray) (k : Nat) (rec rec2 : Loop) : roundDs a b (k + 1) (loDs a b l (k + 1)) 2 rec rec2 = recT rec (.ite (roomB l.length 1 16) (.leaf (.normal, midS (SDs a b) [celS a, celS b, celT (.own 6), some (.vec 9 [.str] (l.length + 1) (catG l.length (gOf strQ l) (rows [strQ (nmB 2)])))] [] (some .dfr) rec2 any17, true)) .bad) := by kernel_rfl
theorem rDs0_3 (a b : Sty) (rec rec2 : Loop) : roundDs a b 0 (loDs a b [] 0) 3 rec rec2 = recT rec (.ite (roomB 0 1 16) (.leaf (.normal, midS (SDs a b) (loDs a b [nmB 3] 1) [] (some .dfr) rec2 any17, true)) .bad) := by kernel_rfl
theorem rDs1_3 (a b : Sty) (l : List ByteArray) (k : Nat) (rec rec2 : Loop) : roundDs a b (k + 1) (loDs a b l (k + 1)) 3 rec rec2 = recT rec (.ite (roomB l.length 1 16) (.leaf (.normal, midS (SDs a b) [celS a, celS b, celT (.own 6), some (.vec 9 [.str] (l.length + 1) (catG l.length (gOf strQ l) (rows [strQ (nmB 3)])))] [] (some .dfr) rec2 any17, true)) .bad) := by kernel_rfl
theorem rDs0_4 (a b : Sty) (rec rec2 : Loop) : roundDs a b 0 (loDs a b [] 0) 4 rec rec2 = recT rec (.ite (roomB 0 1 16) (.leaf (.normal, midS (SDs a b) (loDs a b [nmB 4] 1) [] (some .dfr) rec2 any17, true)) .bad) := by kernel_rfl
theorem rDs1_4 (a b : Sty) (l : List ByteArray) (k : Nat) (rec rec2 : Loop) : roundDs a b (k + 1) (loDs a b l (k + 1)) 4 rec rec2 = recT rec (.ite (roomB l.length 1 16) (.leaf (.normal, midS (SDs a b) [celS a, celS b, celT (.own 6), some (.vec 9 [.str] (l.length + 1) (catG l.length (gOf strQ l) (rows [strQ (nmB 4)])))] [] (some .dfr) rec2 any17, true)) .bad) := by kernel_rfl
theorem rDs0_5 (a b : Sty) (rec rec2 : Loop) : roundDs a b 0 (loDs a b [] 0) 5 rec rec2 = recT rec (.ite (roomB 0 1 16) (.leaf (.normal, midS (SDs a b) (loDs a b [nmB 5] 1) [] (some .dfr) rec2 any17, true)) .bad) := by kernel_rfl
theorem rDs1_5 (a b : Sty) (l : List ByteArray) (k : Nat) (rec rec2 : Loop) : roundDs a b (k + 1) (loDs a b l (k + 1)) 5 rec rec2 = recT rec (.ite (roomB l.length 1 16) (.leaf (.normal, midS (SDs a b) [celS a, celS b, celT (.own 6), some (.vec 9 [.str] (l.length + 1) (catG l.length (gOf strQ l) (rows [strQ (nmB 5)])))] [] (some .dfr) rec2 any17, true)) .bad) := by kernel_rfl
theorem rDs0_6 (a b : Sty) (rec rec2 : Loop) : roundDs a b 0 (loDs a b [] 0) 6 rec rec2 = recT rec (.ite (roomB 0 1 16) (.leaf (.normal, midS (SDs a b) (loDs a b [nmB 6] 1) [] (some .dfr) rec2 any17, true)) .bad) := by kernel_rfl
theorem rDs1_6 (a b : Sty) (l : List ByteArray) (k : Nat) (rec rec2 : Loop) : roundDs a b (k + 1) (loDs a b l (k + 1)) 6 rec rec2 = recT rec (.ite (roomB l.length 1 16) (.leaf (.normal, midS (SDs a b) [celS a, celS b, celT (.own 6), some (.vec 9 [.str] (l.length + 1) (catG l.length (gOf strQ l) (rows [strQ (nmB 6)])))] [] (some .dfr) rec2 any17, true)) .bad) := by kernel_rfl
theorem rDs0_7 (a b : Sty) (rec rec2 : Loop) : roundDs a b 0 (loDs a b [] 0) 7 rec rec2 = recT rec (.ite (roomB 0 1 16) (.leaf (.normal, midS (SDs a b) (loDs a b [nmB 7] 1) [] (some .dfr) rec2 any17, true)) .bad) := by kernel_rfl
theorem rDs1_7 (a b : Sty) (l : List ByteArray) (k : Nat) (rec rec2 : Loop) : roundDs a b (k + 1) (loDs a b l (k + 1)) 7 rec rec2 = recT rec (.ite (roomB l.length 1 16) (.leaf (.normal, midS (SDs a b) [celS a, celS b, celT (.own 6), some (.vec 9 [.str] (l.length + 1) (catG l.length (gOf strQ l) (rows [strQ (nmB 7)])))] [] (some .dfr) rec2 any17, true)) .bad) := by kernel_rfl
theorem rDs0_8 (a b : Sty) (rec rec2 : Loop) : roundDs a b 0 (loDs a b [] 0) 8 rec rec2 = recT rec (.ite (roomB 0 1 16) (.leaf (.normal, midS (SDs a b) (loDs a b [nmB 8] 1) [] (some .dfr) rec2 any17, true)) .bad) := by kernel_rfl
theorem rDs1_8 (a b : Sty) (l : List ByteArray) (k : Nat) (rec rec2 : Loop) : roundDs a b (k + 1) (loDs a b l (k + 1)) 8 rec rec2 = recT rec (.ite (roomB l.length 1 16) (.leaf (.normal, midS (SDs a b) [celS a, celS b, celT (.own 6), some (.vec 9 [.str] (l.length + 1) (catG l.length (gOf strQ l) (rows [strQ (nmB 8)])))] [] (some .dfr) rec2 any17, true)) .bad) := by kernel_rfl
theorem rDs0_9 (a b : Sty) (rec rec2 : Loop) : roundDs a b 0 (loDs a b [] 0) 9 rec rec2 = recT rec (.ite (roomB 0 1 16) (.leaf (.normal, midS (SDs a b) (loDs a b [nmB 9] 1) [] (some .dfr) rec2 any17, true)) .bad) := by kernel_rfl
theorem rDs1_9 (a b : Sty) (l : List ByteArray) (k : Nat) (rec rec2 : Loop) : roundDs a b (k + 1) (loDs a b l (k + 1)) 9 rec rec2 = recT rec (.ite (roomB l.length 1 16) (.leaf (.normal, midS (SDs a b) [celS a, celS b, celT (.own 6), some (.vec 9 [.str] (l.length + 1) (catG l.length (gOf strQ l) (rows [strQ (nmB 9)])))] [] (some .dfr) rec2 any17, true)) .bad) := by kernel_rfl
theorem rDs0_10 (a b : Sty) (rec rec2 : Loop) : roundDs a b 0 (loDs a b [] 0) 10 rec rec2 = recT rec (.ite (roomB 0 1 16) (.leaf (.normal, midS (SDs a b) (loDs a b [nmB 10] 1) [] (some .dfr) rec2 any17, true)) .bad) := by kernel_rfl
theorem rDs1_10 (a b : Sty) (l : List ByteArray) (k : Nat) (rec rec2 : Loop) : roundDs a b (k + 1) (loDs a b l (k + 1)) 10 rec rec2 = recT rec (.ite (roomB l.length 1 16) (.leaf (.normal, midS (SDs a b) [celS a, celS b, celT (.own 6), some (.vec 9 [.str] (l.length + 1) (catG l.length (gOf strQ l) (rows [strQ (nmB 10)])))] [] (some .dfr) rec2 any17, true)) .bad) := by kernel_rfl
theorem rDs0_11 (a b : Sty) (rec rec2 : Loop) : roundDs a b 0 (loDs a b [] 0) 11 rec rec2 = recT rec (.ite (roomB 0 1 16) (.leaf (.normal, midS (SDs a b) (loDs a b [nmB 11] 1) [] (some .dfr) rec2 any17, true)) .bad) := by kernel_rfl
theorem rDs1_11 (a b : Sty) (l : List ByteArray) (k : Nat) (rec rec2 : Loop) : roundDs a b (k + 1) (loDs a b l (k + 1)) 11 rec rec2 = recT rec (.ite (roomB l.length 1 16) (.leaf (.normal, midS (SDs a b) [celS a, celS b, celT (.own 6), some (.vec 9 [.str] (l.length + 1) (catG l.length (gOf strQ l) (rows [strQ (nmB 11)])))] [] (some .dfr) rec2 any17, true)) .bad) := by kernel_rfl
theorem rDs0_12 (a b : Sty) (rec rec2 : Loop) : roundDs a b 0 (loDs a b [] 0) 12 rec rec2 = recT rec (.ite (roomB 0 1 16) (.leaf (.normal, midS (SDs a b) (loDs a b [nmB 12] 1) [] (some .dfr) rec2 any17, true)) .bad) := by kernel_rfl
theorem rDs1_12 (a b : Sty) (l : List ByteArray) (k : Nat) (rec rec2 : Loop) : roundDs a b (k + 1) (loDs a b l (k + 1)) 12 rec rec2 = recT rec (.ite (roomB l.length 1 16) (.leaf (.normal, midS (SDs a b) [celS a, celS b, celT (.own 6), some (.vec 9 [.str] (l.length + 1) (catG l.length (gOf strQ l) (rows [strQ (nmB 12)])))] [] (some .dfr) rec2 any17, true)) .bad) := by kernel_rfl
theorem rDs0_13 (a b : Sty) (rec rec2 : Loop) : roundDs a b 0 (loDs a b [] 0) 13 rec rec2 = recT rec (.ite (roomB 0 1 16) (.leaf (.normal, midS (SDs a b) (loDs a b [nmB 13] 1) [] (some .dfr) rec2 any17, true)) .bad) := by kernel_rfl
theorem rDs1_13 (a b : Sty) (l : List ByteArray) (k : Nat) (rec rec2 : Loop) : roundDs a b (k + 1) (loDs a b l (k + 1)) 13 rec rec2 = recT rec (.ite (roomB l.length 1 16) (.leaf (.normal, midS (SDs a b) [celS a, celS b, celT (.own 6), some (.vec 9 [.str] (l.length + 1) (catG l.length (gOf strQ l) (rows [strQ (nmB 13)])))] [] (some .dfr) rec2 any17, true)) .bad) := by kernel_rfl
theorem rDs0_14 (a b : Sty) (rec rec2 : Loop) : roundDs a b 0 (loDs a b [] 0) 14 rec rec2 = recT rec (.ite (roomB 0 1 16) (.leaf (.normal, midS (SDs a b) (loDs a b [nmB 14] 1) [] (some .dfr) rec2 any17, true)) .bad) := by kernel_rfl
theorem rDs1_14 (a b : Sty) (l : List ByteArray) (k : Nat) (rec rec2 : Loop) : roundDs a b (k + 1) (loDs a b l (k + 1)) 14 rec rec2 = recT rec (.ite (roomB l.length 1 16) (.leaf (.normal, midS (SDs a b) [celS a, celS b, celT (.own 6), some (.vec 9 [.str] (l.length + 1) (catG l.length (gOf strQ l) (rows [strQ (nmB 14)])))] [] (some .dfr) rec2 any17, true)) .bad) := by kernel_rfl
theorem rDs0_15 (a b : Sty) (rec rec2 : Loop) : roundDs a b 0 (loDs a b [] 0) 15 rec rec2 = recT rec (.ite (roomB 0 1 16) (.leaf (.normal, midS (SDs a b) (loDs a b [nmB 15] 1) [] (some .dfr) rec2 any17, true)) .bad) := by kernel_rfl
theorem rDs1_15 (a b : Sty) (l : List ByteArray) (k : Nat) (rec rec2 : Loop) : roundDs a b (k + 1) (loDs a b l (k + 1)) 15 rec rec2 = recT rec (.ite (roomB l.length 1 16) (.leaf (.normal, midS (SDs a b) [celS a, celS b, celT (.own 6), some (.vec 9 [.str] (l.length + 1) (catG l.length (gOf strQ l) (rows [strQ (nmB 15)])))] [] (some .dfr) rec2 any17, true)) .bad) := by kernel_rfl
theorem rDs0 (a b : Sty) (rec rec2 : Loop) : ∀ i, i < 16 → roundDs a b 0 (loDs a b [] 0) i rec rec2 = recT rec (.ite (roomB 0 1 16) (.leaf (.normal, midS (SDs a b) (loDs a b [nmB i] 1) [] (some .dfr) rec2 any17, true)) .bad)
  | 0, _ => rDs0_0 a b rec rec2
  | 1, _ => rDs0_1 a b rec rec2
  | 2, _ => rDs0_2 a b rec rec2
  | 3, _ => rDs0_3 a b rec rec2
  | 4, _ => rDs0_4 a b rec rec2
  | 5, _ => rDs0_5 a b rec rec2
  | 6, _ => rDs0_6 a b rec rec2
  | 7, _ => rDs0_7 a b rec rec2
  | 8, _ => rDs0_8 a b rec rec2
  | 9, _ => rDs0_9 a b rec rec2
  | 10, _ => rDs0_10 a b rec rec2
  | 11, _ => rDs0_11 a b rec rec2
  | 12, _ => rDs0_12 a b rec rec2
  | 13, _ => rDs0_13 a b rec rec2
  | 14, _ => rDs0_14 a b rec rec2
  | 15, _ => rDs0_15 a b rec rec2
  | n + 16, hn => by omega
theorem rDs1 (a b : Sty) (l : List ByteArray) (k : Nat) (rec rec2 : Loop) : ∀ i, i < 16 → roundDs a b (k + 1) (loDs a b l (k + 1)) i rec rec2 = recT rec (.ite (roomB l.length 1 16) (.leaf (.normal, midS (SDs a b) [celS a, celS b, celT (.own 6), some (.vec 9 [.str] (l.length + 1) (catG l.length (gOf strQ l) (rows [strQ (nmB i)])))] [] (some .dfr) rec2 any17, true)) .bad)
  | 0, _ => rDs1_0 a b l k rec rec2
  | 1, _ => rDs1_1 a b l k rec rec2
  | 2, _ => rDs1_2 a b l k rec rec2
  | 3, _ => rDs1_3 a b l k rec rec2
  | 4, _ => rDs1_4 a b l k rec rec2
  | 5, _ => rDs1_5 a b l k rec rec2
  | 6, _ => rDs1_6 a b l k rec rec2
  | 7, _ => rDs1_7 a b l k rec rec2
  | 8, _ => rDs1_8 a b l k rec rec2
  | 9, _ => rDs1_9 a b l k rec rec2
  | 10, _ => rDs1_10 a b l k rec rec2
  | 11, _ => rDs1_11 a b l k rec rec2
  | 12, _ => rDs1_12 a b l k rec rec2
  | 13, _ => rDs1_13 a b l k rec rec2
  | 14, _ => rDs1_14 a b l k rec rec2
  | 15, _ => rDs1_15 a b l k rec rec2
  | n + 16, hn => by omega
/-- The names of some fields. -/
def nmD (a b : Sty) : List ByteArray := (dfs a b 16).map nmB
theorem nmD_len (a b : Sty) : (nmD a b).length = (dfs a b 16).length := by simp [nmD]
theorem dfs_len (a b : Sty) : (dfs a b 16).length ≤ 16 := by
  have := List.length_filter_le (difB a b) (List.range 16)
  simpa [dfs] using this
theorem takeD_suc (a b : Sty) (f : Nat → ByteArray) {k : Nat} (hk : k < (dfs a b 16).length) : ((dfs a b 16).map f).take (k + 1) = ((dfs a b 16).map f).take k ++ [f ((dfs a b 16).getD k 0)] := by
  have hk2 : k < ((dfs a b 16).map f).length := by simpa using hk
  rw [List.take_add_one, List.getElem?_eq_getElem hk2]
  simp [List.getD_eq_getElem?_getD, hk]
theorem rangeDs (a b : Sty) : ∀ x, (T.leaf (Ex.normal, outS (SDs a b) (loDs a b (nmD a b) (nmD a b).length) [])).pick = some x → SemC Tryz.prog (.rangeFunc (.tmp 9) #[10] rfDs.1 rfDs.2) (SDs a b) x := by
  intro x hx
  have hlen := nmD_len a b
  have h16 := dfs_len a b
  have H : Rounds Tryz.prog [] [] pDs rfDs.1 rfDs.2 (#[10] : Array Nat).toList (SDs a b) (if (SDs a b).inr then none else some .dfr) ((SDs a b).tm.map fun _ => .any)
      (fun k => loDs a b ((nmD a b).take k) k) (fun _ => []) (xDf a b) (dfs a b 16).length (fun _ => .normal) := by
    refine rounds_ofP postDs postDs_ok (fun _ => 7) (fun k => ?_) (fun k _ => rfl) fun k hk hn rec rec' => ?_
    · cases k <;> simp [SDs, mkS]
    · have hi := dfs_mem (n := 16) hk
      have ht := takeD_suc a b nmB hk
      cases k with
      | zero =>
        refine (congrArg T.pick (rDs0 a b rec rec' _ hi)).trans ?_
        rw [pick_same]
        show some _ = some _
        rw [show (nmD a b).take (0 + 1) = [nmB ((dfs a b 16).getD 0 0)] from ht]; rfl
      | succ k =>
        have hl : ((nmD a b).take (k + 1)).length = k + 1 := by rw [List.length_take]; omega
        refine (congrArg T.pick (rDs1 a b ((nmD a b).take (k + 1)) k rec rec' _ hi)).trans ?_
        have hr : roomB ((nmD a b).take (k + 1)).length 1 16 = true := by rw [hl]; simp [roomB]; omega
        rw [pick_same, hr, catG_of strQ, show (nmD a b).take (k + 1) ++ [nmB ((dfs a b 16).getD (k + 1) 0)] = (nmD a b).take (k + 1 + 1) from ht.symm]
        show some _ = some _
        have : ((nmD a b).take (k + 1)).length + 1 = ((nmD a b).take (k + 1 + 1)).length := by rw [hl, List.length_take]; omega
        rw [this]; rfl
  have hc : codeAt (cod Tryz.f22) pDs = some (.rangeFunc (.tmp 9) #[10] rfDs.1 rfDs.2) := by kernel_rfl
  have hsp : (differI.s (difC a b)).pick = some ((dfs a b 16).length, xDf a b) := rfl
  cases hx
  have := sem_range (GOK.nil _) (LamOK.nil _ _) hc (f := 38) (caps := difC a b) rfl rfl differI.ok hsp H rfl rfl (m := (dfs a b 16).length) (e := .normal) ⟨Nat.le_refl _, .inl ⟨rfl, rfl, fun j _ => rfl⟩⟩ (by cases (dfs a b 16).length <;> trivial) (fun d hd => by simp [SDs, mkS] at hd)
  rw [← hlen, List.take_length] at this
  exact this
abbrev ΓDs : Gam := [(24, differ.s)]
theorem ΓDs.ok : GOK Tryz.prog ΓDs := .cons differ.ok (GOK.nil _)
noncomputable abbrev orDs (a b : Sty) (lo : List (Option Ob)) : Lam := [(pDs, orc false 17 3 [5, 9] (SDs a b) (.leaf (Ex.normal, outS (SDs a b) lo [])))]
theorem eqDs1 (a b : Sty) (m : Nat) (h : Nat → Nat → Q) : funV Tryz.prog ΓDs (orDs a b [celS a, celS b, celT (.own 6), some (.vec 9 [.str] m h)]) Tryz.f22 (cod Tryz.f22) [styV a, styV b] =
    .ite (@decide (SDs a b = SDs a b) (Classical.propDecidable _)) (.leaf (lS m h)) .bad := by kernel_rfl
theorem eqDs0 (a b : Sty) : funV Tryz.prog ΓDs (orDs a b [celS a, celS b, celT nilT]) Tryz.f22 (cod Tryz.f22) [styV a, styV b] =
    .ite (@decide (SDs a b = SDs a b) (Classical.propDecidable _)) (.leaf nilT) .bad := by kernel_rfl
abbrev differs.t := sty2 fun a b => .ite (decide ((nmD a b).length = 0)) (.leaf nilT) (.leaf (vStr (nmD a b)))
theorem differs.okt : SpecOK Tryz.prog 22 differs.t := ok2 ΓDs.ok Tryz.func22 (by kernel_rfl) (by kernel_rfl) fun a b r hr => by
  refine ⟨orDs a b (loDs a b (nmD a b) (nmD a b).length), LamOK.orc (c := .rangeFunc (.tmp 9) #[10] rfDs.1 rfDs.2) (by kernel_rfl) (rangeDs a b) (LamOK.nil _ _), ?_⟩
  rw [← hr]
  cases hn : (nmD a b).length with
  | zero =>
    refine (congrArg T.pick (eqDs0 a b)).trans ((pick_same _ _).trans ?_)
    rfl
  | succ n =>
    refine (congrArg T.pick (eqDs1 a b (nmD a b).length (gOf strQ (nmD a b)))).trans ((pick_same _ _).trans ?_)
    rfl
abbrev differs.s := sty2 fun a b => .leaf (vStr (nmD a b))
theorem sty2_inv {F : Sty → Sty → T V} {args : List V} {r : V} (h : (sty2 F args).pick = some r) : ∃ a b, args = [styV a, styV b] ∧ (F a b).pick = some r := by
  unfold sty2 at h
  split at h
  · obtain ⟨a, rfl, h2⟩ := onSt_pick h
    obtain ⟨b, rfl, h3⟩ := onSt_pick h2
    exact ⟨a, b, rfl, h3⟩
  · cases h
theorem differs.ok : SpecOK Tryz.prog 22 differs.s := by
  refine SpecOK.res differs.okt fun args r hb hr => ?_
  obtain ⟨a, b, rfl, hr⟩ := sty2_inv hr
  cases hr
  by_cases h0 : (nmD a b).length = 0
  · refine ⟨nilT, ?_, fun S w v hd => ?_⟩
    · show (T.ite (decide ((nmD a b).length = 0)) (.leaf nilT) (.leaf (vStr (nmD a b)))).pick = _
      rw [decide_eq_true h0]; rfl
    · show Den S NoL th0 w (.q (.lst [.str] (nmD a b).length (gOf strQ (nmD a b)))) v
      rw [h0]
      exact .q _ _ (den_nil hd.q_inv)
  · refine ⟨_, ?_, fun S w v hd => hd⟩
    show (T.ite (decide ((nmD a b).length = 0)) (.leaf nilT) (.leaf (vStr (nmD a b)))).pick = _
    rw [decide_eq_false h0]; rfl
end Go.Proofs.YtgmeglodnhagdaaGreatDoor

/-! ## StI -/
namespace Go.Proofs.YtgmeglodnhagdaaGreatDoor
open Go Go.SX Go.Proofs
set_option maxRecDepth 100000
variable [EA]
set_option linter.unusedVariables false
set_option linter.unusedSectionVars false
set_option linter.unusedSimpArgs false

abbrev pPt : List Nat := [0, 1, 0, 1, 1, 1]
noncomputable abbrev rfPt : Code × Code := rfAt Tryz.f10 pPt
abbrev ΓPt : Gam := [(93, count1.s), (97, length1.s), (101, flag1.s), (103, word1.s), (24, differ.s), (15, right.s), (16, plain.s), (25, join.s)]
theorem ΓPt.ok : GOK Tryz.prog ΓPt := .cons count1.ok (.cons length1.ok (.cons flag1.ok (.cons word1.ok (.cons differ.ok (.cons right.ok (.cons plain.ok (.cons join.ok (GOK.nil _))))))))
abbrev loPt (s : Sty) (l : List ByteArray) : Nat → List (Option Ob)
  | 0 => [celS s, celT nilT]
  | _ + 1 => [celS s, celT (.own 5), vecT l]
def SPt (s : Sty) : St := mkS 31 [(1, .ptr 0 0), (4, .ptr 1 0), (12, .clo 38 (difC s plainS))] (loPt s [] 0) [] false [] 0
abbrev any31 : List V := List.replicate 31 .any
def postPt : Nat → St → St
  | 0, s => mvL [(6, 5)] s
  | _ + 1, s => mvL [(7, 5)] s
theorem postPt_ok (k : Nat) (s : St) : Sub Tryz.prog s (postPt k s) := by
  cases k with
  | zero => exact sub_mvL _ _
  | succ k => exact sub_mvL _ _
noncomputable abbrev roundPt (s : Sty) (k : Nat) (L : List (Option Ob)) (i : Nat) (rec rec' : Loop) : T (Ex × St × Bool) :=
  roundP (postPt k) Tryz.prog ΓPt [] pPt rfPt.1 rfPt.2 [13] (SPt s) (some .dfr) 6 L [] (xRow i) rec rec'
noncomputable abbrev recB (rec : Loop) : Bool := @decide ((some (some (Ob.raw (.loop rec))) : Option (Option Ob)) = some (some (.raw (.loop rec)))) (Classical.propDecidable _)
theorem recB_true (rec : Loop) : recB rec = true := @decide_eq_true _ (Classical.propDecidable _) rfl
abbrev szA (t : ByteArray) : Bool := decide (1 + t.size ≤ 9223372036854775807)
abbrev szB (n t : ByteArray) : Bool := decide (n.size + (bT [32] ++ t).size ≤ 9223372036854775807)
abbrev itB (n : Int) : Bool := decide (-9223372036854775808 ≤ n ∧ n ≤ 9223372036854775807)
abbrev wdB (n : Int) : Bool := decide (0 ≤ wdI n ∧ wdI n < ((2 : Nat) : Int))
abbrev avoidG : Nat → Nat → Q := wrdG ⟨#[97, 118, 111, 105, 100]⟩ ⟨#[99, 111, 108, 117, 109, 110]⟩
abbrev leftG : Nat → Nat → Q := wrdG ⟨#[108, 101, 102, 116]⟩ ⟨#[114, 105, 103, 104, 116]⟩
/-- A field's text. -/
def txB (s : Sty) : Nat → ByteArray
  | 0 => bT (Lib.itoa (getN s 0))
  | 1 => printT (getN s 1)
  | 2 => printT (getN s 2)
  | 3 => printT (getN s 3)
  | 4 => bT []
  | 5 => printT (getN s 5)
  | 6 => bT (Lib.itoa (getN s 6))
  | 7 => bT (Lib.itoa (getN s 7))
  | 8 => bT []
  | 9 => qStr (avoidG (wdI (getN s 9)).toNat 0)
  | 10 => qStr (avoidG (wdI (getN s 10)).toNat 0)
  | 11 => bT []
  | 12 => qStr (leftG (wdI (getN s 12)).toNat 0)
  | 13 => bT []
  | 14 => printT (getN s 14)
  | 15 => printT (getN s 15)
  | _ => bT []
def hasF (i : Nat) : Bool := qBool (gFd i 1)
/-- A part of a style's text. -/
def elB (s : Sty) (i : Nat) : ByteArray := bif hasF i then nmB i ++ (bT [32] ++ txB s i) else nmB i

/-- What a part asks. -/
def cnA (s : Sty) : Nat → Bool
  | 0 => itB (getN s 0)
  | 6 => itB (getN s 6)
  | 7 => itB (getN s 7)
  | 9 => wdB (getN s 9)
  | 10 => wdB (getN s 10)
  | 12 => wdB (getN s 12)
  | _ => true
def cnS (s : Sty) (i : Nat) : Bool := decide ((txB s i).size ≤ 1000)
theorem nm_size : ∀ i, i < 16 → (nmB i).size ≤ 1000
  | 0, _ => by decide
  | 1, _ => by decide
  | 2, _ => by decide
  | 3, _ => by decide
  | 4, _ => by decide
  | 5, _ => by decide
  | 6, _ => by decide
  | 7, _ => by decide
  | 8, _ => by decide
  | 9, _ => by decide
  | 10, _ => by decide
  | 11, _ => by decide
  | 12, _ => by decide
  | 13, _ => by decide
  | 14, _ => by decide
  | 15, _ => by decide
  | n + 16, h => by omega
theorem szA_of {t : ByteArray} (h : t.size ≤ 1000) : szA t = true := decide_eq_true (by omega)
theorem szB_of {n t : ByteArray} (hn : n.size ≤ 1000) (h : t.size ≤ 1000) : szB n t = true := decide_eq_true (by
  have : (bT [32]).size = 1 := rfl
  rw [ByteArray.size_append]; omega)
abbrev out0 (s : Sty) (i : Nat) (rec2 : Loop) : Ex × St × Bool := (.normal, midS (SPt s) [celS s, celT (.own 5), vecT [elB s i]] [] (some .dfr) rec2 any31, true)
abbrev out1 (s : Sty) (l : List ByteArray) (i : Nat) (rec2 : Loop) : Ex × St × Bool := (.normal, midS (SPt s) [celS s, celT (.own 5), some (.vec 9 [.str] (l.length + 1) (catG l.length (gOf strQ l) (rows [strQ (elB s i)])))] [] (some .dfr) rec2 any31, true)
theorem rPt0_0 (s : Sty) (rec rec2 : Loop) (ha : cnA s 0 = true) (hs : (txB s 0).size ≤ 1000) : (roundPt s 0 (loPt s [] 0) 0 rec rec2).pick = some (out0 s 0 rec2) := by
  have hr : roomB 0 1 16 = true := by decide
  have e1 : T.pathC (roundPt s 0 (loPt s [] 0) 0 rec rec2) [true, true, true, true, true, true] = [recB rec, true, cnA s 0, szA (txB s 0), szB (nmB 0) (txB s 0), roomB 0 1 16] := by kernel_rfl
  have e2 : T.pathL (roundPt s 0 (loPt s [] 0) 0 rec rec2) [true, true, true, true, true, true] = .leaf (out0 s 0 rec2) := by kernel_rfl
  exact (T.pick_path [true, true, true, true, true, true] _ (e1.trans (by rw [recB_true, ha, szA_of hs, szB_of (nm_size 0 (by omega)) hs, hr]))).trans (congrArg T.pick e2)
theorem rPt1_0 (s : Sty) (l : List ByteArray) (k : Nat) (rec rec2 : Loop) (ha : cnA s 0 = true) (hs : (txB s 0).size ≤ 1000) (hr : roomB l.length 1 16 = true) : (roundPt s (k + 1) (loPt s l (k + 1)) 0 rec rec2).pick = some (out1 s l 0 rec2) := by
  have e1 : T.pathC (roundPt s (k + 1) (loPt s l (k + 1)) 0 rec rec2) [true, true, true, true, true, true] = [recB rec, true, cnA s 0, szA (txB s 0), szB (nmB 0) (txB s 0), roomB l.length 1 16] := by kernel_rfl
  have e2 : T.pathL (roundPt s (k + 1) (loPt s l (k + 1)) 0 rec rec2) [true, true, true, true, true, true] = .leaf (out1 s l 0 rec2) := by kernel_rfl
  exact (T.pick_path [true, true, true, true, true, true] _ (e1.trans (by rw [recB_true, ha, szA_of hs, szB_of (nm_size 0 (by omega)) hs, hr]))).trans (congrArg T.pick e2)
theorem rPt0_1 (s : Sty) (rec rec2 : Loop) (ha : cnA s 1 = true) (hs : (txB s 1).size ≤ 1000) : (roundPt s 0 (loPt s [] 0) 1 rec rec2).pick = some (out0 s 1 rec2) := by
  have hr : roomB 0 1 16 = true := by decide
  have e1 : T.pathC (roundPt s 0 (loPt s [] 0) 1 rec rec2) [true, true, true, true, true] = [recB rec, true, szA (txB s 1), szB (nmB 1) (txB s 1), roomB 0 1 16] := by kernel_rfl
  have e2 : T.pathL (roundPt s 0 (loPt s [] 0) 1 rec rec2) [true, true, true, true, true] = .leaf (out0 s 1 rec2) := by kernel_rfl
  exact (T.pick_path [true, true, true, true, true] _ (e1.trans (by rw [recB_true, szA_of hs, szB_of (nm_size 1 (by omega)) hs, hr]))).trans (congrArg T.pick e2)
theorem rPt1_1 (s : Sty) (l : List ByteArray) (k : Nat) (rec rec2 : Loop) (ha : cnA s 1 = true) (hs : (txB s 1).size ≤ 1000) (hr : roomB l.length 1 16 = true) : (roundPt s (k + 1) (loPt s l (k + 1)) 1 rec rec2).pick = some (out1 s l 1 rec2) := by
  have e1 : T.pathC (roundPt s (k + 1) (loPt s l (k + 1)) 1 rec rec2) [true, true, true, true, true] = [recB rec, true, szA (txB s 1), szB (nmB 1) (txB s 1), roomB l.length 1 16] := by kernel_rfl
  have e2 : T.pathL (roundPt s (k + 1) (loPt s l (k + 1)) 1 rec rec2) [true, true, true, true, true] = .leaf (out1 s l 1 rec2) := by kernel_rfl
  exact (T.pick_path [true, true, true, true, true] _ (e1.trans (by rw [recB_true, szA_of hs, szB_of (nm_size 1 (by omega)) hs, hr]))).trans (congrArg T.pick e2)
theorem rPt0_2 (s : Sty) (rec rec2 : Loop) (ha : cnA s 2 = true) (hs : (txB s 2).size ≤ 1000) : (roundPt s 0 (loPt s [] 0) 2 rec rec2).pick = some (out0 s 2 rec2) := by
  have hr : roomB 0 1 16 = true := by decide
  have e1 : T.pathC (roundPt s 0 (loPt s [] 0) 2 rec rec2) [true, true, true, true, true] = [recB rec, true, szA (txB s 2), szB (nmB 2) (txB s 2), roomB 0 1 16] := by kernel_rfl
  have e2 : T.pathL (roundPt s 0 (loPt s [] 0) 2 rec rec2) [true, true, true, true, true] = .leaf (out0 s 2 rec2) := by kernel_rfl
  exact (T.pick_path [true, true, true, true, true] _ (e1.trans (by rw [recB_true, szA_of hs, szB_of (nm_size 2 (by omega)) hs, hr]))).trans (congrArg T.pick e2)
theorem rPt1_2 (s : Sty) (l : List ByteArray) (k : Nat) (rec rec2 : Loop) (ha : cnA s 2 = true) (hs : (txB s 2).size ≤ 1000) (hr : roomB l.length 1 16 = true) : (roundPt s (k + 1) (loPt s l (k + 1)) 2 rec rec2).pick = some (out1 s l 2 rec2) := by
  have e1 : T.pathC (roundPt s (k + 1) (loPt s l (k + 1)) 2 rec rec2) [true, true, true, true, true] = [recB rec, true, szA (txB s 2), szB (nmB 2) (txB s 2), roomB l.length 1 16] := by kernel_rfl
  have e2 : T.pathL (roundPt s (k + 1) (loPt s l (k + 1)) 2 rec rec2) [true, true, true, true, true] = .leaf (out1 s l 2 rec2) := by kernel_rfl
  exact (T.pick_path [true, true, true, true, true] _ (e1.trans (by rw [recB_true, szA_of hs, szB_of (nm_size 2 (by omega)) hs, hr]))).trans (congrArg T.pick e2)
theorem rPt0_3 (s : Sty) (rec rec2 : Loop) (ha : cnA s 3 = true) (hs : (txB s 3).size ≤ 1000) : (roundPt s 0 (loPt s [] 0) 3 rec rec2).pick = some (out0 s 3 rec2) := by
  have hr : roomB 0 1 16 = true := by decide
  have e1 : T.pathC (roundPt s 0 (loPt s [] 0) 3 rec rec2) [true, true, true, true, true] = [recB rec, true, szA (txB s 3), szB (nmB 3) (txB s 3), roomB 0 1 16] := by kernel_rfl
  have e2 : T.pathL (roundPt s 0 (loPt s [] 0) 3 rec rec2) [true, true, true, true, true] = .leaf (out0 s 3 rec2) := by kernel_rfl
  exact (T.pick_path [true, true, true, true, true] _ (e1.trans (by rw [recB_true, szA_of hs, szB_of (nm_size 3 (by omega)) hs, hr]))).trans (congrArg T.pick e2)
theorem rPt1_3 (s : Sty) (l : List ByteArray) (k : Nat) (rec rec2 : Loop) (ha : cnA s 3 = true) (hs : (txB s 3).size ≤ 1000) (hr : roomB l.length 1 16 = true) : (roundPt s (k + 1) (loPt s l (k + 1)) 3 rec rec2).pick = some (out1 s l 3 rec2) := by
  have e1 : T.pathC (roundPt s (k + 1) (loPt s l (k + 1)) 3 rec rec2) [true, true, true, true, true] = [recB rec, true, szA (txB s 3), szB (nmB 3) (txB s 3), roomB l.length 1 16] := by kernel_rfl
  have e2 : T.pathL (roundPt s (k + 1) (loPt s l (k + 1)) 3 rec rec2) [true, true, true, true, true] = .leaf (out1 s l 3 rec2) := by kernel_rfl
  exact (T.pick_path [true, true, true, true, true] _ (e1.trans (by rw [recB_true, szA_of hs, szB_of (nm_size 3 (by omega)) hs, hr]))).trans (congrArg T.pick e2)
theorem rPt0_4 (s : Sty) (rec rec2 : Loop) (ha : cnA s 4 = true) (hs : (txB s 4).size ≤ 1000) : (roundPt s 0 (loPt s [] 0) 4 rec rec2).pick = some (out0 s 4 rec2) := by
  have hr : roomB 0 1 16 = true := by decide
  have e1 : T.pathC (roundPt s 0 (loPt s [] 0) 4 rec rec2) [true, false, true] = [recB rec, false, roomB 0 1 16] := by kernel_rfl
  have e2 : T.pathL (roundPt s 0 (loPt s [] 0) 4 rec rec2) [true, false, true] = .leaf (out0 s 4 rec2) := by kernel_rfl
  exact (T.pick_path [true, false, true] _ (e1.trans (by rw [recB_true, hr]))).trans (congrArg T.pick e2)
theorem rPt1_4 (s : Sty) (l : List ByteArray) (k : Nat) (rec rec2 : Loop) (ha : cnA s 4 = true) (hs : (txB s 4).size ≤ 1000) (hr : roomB l.length 1 16 = true) : (roundPt s (k + 1) (loPt s l (k + 1)) 4 rec rec2).pick = some (out1 s l 4 rec2) := by
  have e1 : T.pathC (roundPt s (k + 1) (loPt s l (k + 1)) 4 rec rec2) [true, false, true] = [recB rec, false, roomB l.length 1 16] := by kernel_rfl
  have e2 : T.pathL (roundPt s (k + 1) (loPt s l (k + 1)) 4 rec rec2) [true, false, true] = .leaf (out1 s l 4 rec2) := by kernel_rfl
  exact (T.pick_path [true, false, true] _ (e1.trans (by rw [recB_true, hr]))).trans (congrArg T.pick e2)
theorem rPt0_5 (s : Sty) (rec rec2 : Loop) (ha : cnA s 5 = true) (hs : (txB s 5).size ≤ 1000) : (roundPt s 0 (loPt s [] 0) 5 rec rec2).pick = some (out0 s 5 rec2) := by
  have hr : roomB 0 1 16 = true := by decide
  have e1 : T.pathC (roundPt s 0 (loPt s [] 0) 5 rec rec2) [true, true, true, true, true] = [recB rec, true, szA (txB s 5), szB (nmB 5) (txB s 5), roomB 0 1 16] := by kernel_rfl
  have e2 : T.pathL (roundPt s 0 (loPt s [] 0) 5 rec rec2) [true, true, true, true, true] = .leaf (out0 s 5 rec2) := by kernel_rfl
  exact (T.pick_path [true, true, true, true, true] _ (e1.trans (by rw [recB_true, szA_of hs, szB_of (nm_size 5 (by omega)) hs, hr]))).trans (congrArg T.pick e2)
theorem rPt1_5 (s : Sty) (l : List ByteArray) (k : Nat) (rec rec2 : Loop) (ha : cnA s 5 = true) (hs : (txB s 5).size ≤ 1000) (hr : roomB l.length 1 16 = true) : (roundPt s (k + 1) (loPt s l (k + 1)) 5 rec rec2).pick = some (out1 s l 5 rec2) := by
  have e1 : T.pathC (roundPt s (k + 1) (loPt s l (k + 1)) 5 rec rec2) [true, true, true, true, true] = [recB rec, true, szA (txB s 5), szB (nmB 5) (txB s 5), roomB l.length 1 16] := by kernel_rfl
  have e2 : T.pathL (roundPt s (k + 1) (loPt s l (k + 1)) 5 rec rec2) [true, true, true, true, true] = .leaf (out1 s l 5 rec2) := by kernel_rfl
  exact (T.pick_path [true, true, true, true, true] _ (e1.trans (by rw [recB_true, szA_of hs, szB_of (nm_size 5 (by omega)) hs, hr]))).trans (congrArg T.pick e2)
theorem rPt0_6 (s : Sty) (rec rec2 : Loop) (ha : cnA s 6 = true) (hs : (txB s 6).size ≤ 1000) : (roundPt s 0 (loPt s [] 0) 6 rec rec2).pick = some (out0 s 6 rec2) := by
  have hr : roomB 0 1 16 = true := by decide
  have e1 : T.pathC (roundPt s 0 (loPt s [] 0) 6 rec rec2) [true, true, true, true, true, true] = [recB rec, true, cnA s 6, szA (txB s 6), szB (nmB 6) (txB s 6), roomB 0 1 16] := by kernel_rfl
  have e2 : T.pathL (roundPt s 0 (loPt s [] 0) 6 rec rec2) [true, true, true, true, true, true] = .leaf (out0 s 6 rec2) := by kernel_rfl
  exact (T.pick_path [true, true, true, true, true, true] _ (e1.trans (by rw [recB_true, ha, szA_of hs, szB_of (nm_size 6 (by omega)) hs, hr]))).trans (congrArg T.pick e2)
theorem rPt1_6 (s : Sty) (l : List ByteArray) (k : Nat) (rec rec2 : Loop) (ha : cnA s 6 = true) (hs : (txB s 6).size ≤ 1000) (hr : roomB l.length 1 16 = true) : (roundPt s (k + 1) (loPt s l (k + 1)) 6 rec rec2).pick = some (out1 s l 6 rec2) := by
  have e1 : T.pathC (roundPt s (k + 1) (loPt s l (k + 1)) 6 rec rec2) [true, true, true, true, true, true] = [recB rec, true, cnA s 6, szA (txB s 6), szB (nmB 6) (txB s 6), roomB l.length 1 16] := by kernel_rfl
  have e2 : T.pathL (roundPt s (k + 1) (loPt s l (k + 1)) 6 rec rec2) [true, true, true, true, true, true] = .leaf (out1 s l 6 rec2) := by kernel_rfl
  exact (T.pick_path [true, true, true, true, true, true] _ (e1.trans (by rw [recB_true, ha, szA_of hs, szB_of (nm_size 6 (by omega)) hs, hr]))).trans (congrArg T.pick e2)
theorem rPt0_7 (s : Sty) (rec rec2 : Loop) (ha : cnA s 7 = true) (hs : (txB s 7).size ≤ 1000) : (roundPt s 0 (loPt s [] 0) 7 rec rec2).pick = some (out0 s 7 rec2) := by
  have hr : roomB 0 1 16 = true := by decide
  have e1 : T.pathC (roundPt s 0 (loPt s [] 0) 7 rec rec2) [true, true, true, true, true, true] = [recB rec, true, cnA s 7, szA (txB s 7), szB (nmB 7) (txB s 7), roomB 0 1 16] := by kernel_rfl
  have e2 : T.pathL (roundPt s 0 (loPt s [] 0) 7 rec rec2) [true, true, true, true, true, true] = .leaf (out0 s 7 rec2) := by kernel_rfl
  exact (T.pick_path [true, true, true, true, true, true] _ (e1.trans (by rw [recB_true, ha, szA_of hs, szB_of (nm_size 7 (by omega)) hs, hr]))).trans (congrArg T.pick e2)
theorem rPt1_7 (s : Sty) (l : List ByteArray) (k : Nat) (rec rec2 : Loop) (ha : cnA s 7 = true) (hs : (txB s 7).size ≤ 1000) (hr : roomB l.length 1 16 = true) : (roundPt s (k + 1) (loPt s l (k + 1)) 7 rec rec2).pick = some (out1 s l 7 rec2) := by
  have e1 : T.pathC (roundPt s (k + 1) (loPt s l (k + 1)) 7 rec rec2) [true, true, true, true, true, true] = [recB rec, true, cnA s 7, szA (txB s 7), szB (nmB 7) (txB s 7), roomB l.length 1 16] := by kernel_rfl
  have e2 : T.pathL (roundPt s (k + 1) (loPt s l (k + 1)) 7 rec rec2) [true, true, true, true, true, true] = .leaf (out1 s l 7 rec2) := by kernel_rfl
  exact (T.pick_path [true, true, true, true, true, true] _ (e1.trans (by rw [recB_true, ha, szA_of hs, szB_of (nm_size 7 (by omega)) hs, hr]))).trans (congrArg T.pick e2)
theorem rPt0_8 (s : Sty) (rec rec2 : Loop) (ha : cnA s 8 = true) (hs : (txB s 8).size ≤ 1000) : (roundPt s 0 (loPt s [] 0) 8 rec rec2).pick = some (out0 s 8 rec2) := by
  have hr : roomB 0 1 16 = true := by decide
  have e1 : T.pathC (roundPt s 0 (loPt s [] 0) 8 rec rec2) [true, false, true] = [recB rec, false, roomB 0 1 16] := by kernel_rfl
  have e2 : T.pathL (roundPt s 0 (loPt s [] 0) 8 rec rec2) [true, false, true] = .leaf (out0 s 8 rec2) := by kernel_rfl
  exact (T.pick_path [true, false, true] _ (e1.trans (by rw [recB_true, hr]))).trans (congrArg T.pick e2)
theorem rPt1_8 (s : Sty) (l : List ByteArray) (k : Nat) (rec rec2 : Loop) (ha : cnA s 8 = true) (hs : (txB s 8).size ≤ 1000) (hr : roomB l.length 1 16 = true) : (roundPt s (k + 1) (loPt s l (k + 1)) 8 rec rec2).pick = some (out1 s l 8 rec2) := by
  have e1 : T.pathC (roundPt s (k + 1) (loPt s l (k + 1)) 8 rec rec2) [true, false, true] = [recB rec, false, roomB l.length 1 16] := by kernel_rfl
  have e2 : T.pathL (roundPt s (k + 1) (loPt s l (k + 1)) 8 rec rec2) [true, false, true] = .leaf (out1 s l 8 rec2) := by kernel_rfl
  exact (T.pick_path [true, false, true] _ (e1.trans (by rw [recB_true, hr]))).trans (congrArg T.pick e2)
theorem rPt0_9 (s : Sty) (rec rec2 : Loop) (ha : cnA s 9 = true) (hs : (txB s 9).size ≤ 1000) : (roundPt s 0 (loPt s [] 0) 9 rec rec2).pick = some (out0 s 9 rec2) := by
  have hr : roomB 0 1 16 = true := by decide
  have e1 : T.pathC (roundPt s 0 (loPt s [] 0) 9 rec rec2) [true, true, true, true, true, true] = [recB rec, true, cnA s 9, szA (txB s 9), szB (nmB 9) (txB s 9), roomB 0 1 16] := by kernel_rfl
  have e2 : T.pathL (roundPt s 0 (loPt s [] 0) 9 rec rec2) [true, true, true, true, true, true] = .leaf (out0 s 9 rec2) := by kernel_rfl
  exact (T.pick_path [true, true, true, true, true, true] _ (e1.trans (by rw [recB_true, ha, szA_of hs, szB_of (nm_size 9 (by omega)) hs, hr]))).trans (congrArg T.pick e2)
theorem rPt1_9 (s : Sty) (l : List ByteArray) (k : Nat) (rec rec2 : Loop) (ha : cnA s 9 = true) (hs : (txB s 9).size ≤ 1000) (hr : roomB l.length 1 16 = true) : (roundPt s (k + 1) (loPt s l (k + 1)) 9 rec rec2).pick = some (out1 s l 9 rec2) := by
  have e1 : T.pathC (roundPt s (k + 1) (loPt s l (k + 1)) 9 rec rec2) [true, true, true, true, true, true] = [recB rec, true, cnA s 9, szA (txB s 9), szB (nmB 9) (txB s 9), roomB l.length 1 16] := by kernel_rfl
  have e2 : T.pathL (roundPt s (k + 1) (loPt s l (k + 1)) 9 rec rec2) [true, true, true, true, true, true] = .leaf (out1 s l 9 rec2) := by kernel_rfl
  exact (T.pick_path [true, true, true, true, true, true] _ (e1.trans (by rw [recB_true, ha, szA_of hs, szB_of (nm_size 9 (by omega)) hs, hr]))).trans (congrArg T.pick e2)
theorem rPt0_10 (s : Sty) (rec rec2 : Loop) (ha : cnA s 10 = true) (hs : (txB s 10).size ≤ 1000) : (roundPt s 0 (loPt s [] 0) 10 rec rec2).pick = some (out0 s 10 rec2) := by
  have hr : roomB 0 1 16 = true := by decide
  have e1 : T.pathC (roundPt s 0 (loPt s [] 0) 10 rec rec2) [true, true, true, true, true, true] = [recB rec, true, cnA s 10, szA (txB s 10), szB (nmB 10) (txB s 10), roomB 0 1 16] := by kernel_rfl
  have e2 : T.pathL (roundPt s 0 (loPt s [] 0) 10 rec rec2) [true, true, true, true, true, true] = .leaf (out0 s 10 rec2) := by kernel_rfl
  exact (T.pick_path [true, true, true, true, true, true] _ (e1.trans (by rw [recB_true, ha, szA_of hs, szB_of (nm_size 10 (by omega)) hs, hr]))).trans (congrArg T.pick e2)
theorem rPt1_10 (s : Sty) (l : List ByteArray) (k : Nat) (rec rec2 : Loop) (ha : cnA s 10 = true) (hs : (txB s 10).size ≤ 1000) (hr : roomB l.length 1 16 = true) : (roundPt s (k + 1) (loPt s l (k + 1)) 10 rec rec2).pick = some (out1 s l 10 rec2) := by
  have e1 : T.pathC (roundPt s (k + 1) (loPt s l (k + 1)) 10 rec rec2) [true, true, true, true, true, true] = [recB rec, true, cnA s 10, szA (txB s 10), szB (nmB 10) (txB s 10), roomB l.length 1 16] := by kernel_rfl
  have e2 : T.pathL (roundPt s (k + 1) (loPt s l (k + 1)) 10 rec rec2) [true, true, true, true, true, true] = .leaf (out1 s l 10 rec2) := by kernel_rfl
  exact (T.pick_path [true, true, true, true, true, true] _ (e1.trans (by rw [recB_true, ha, szA_of hs, szB_of (nm_size 10 (by omega)) hs, hr]))).trans (congrArg T.pick e2)
theorem rPt0_11 (s : Sty) (rec rec2 : Loop) (ha : cnA s 11 = true) (hs : (txB s 11).size ≤ 1000) : (roundPt s 0 (loPt s [] 0) 11 rec rec2).pick = some (out0 s 11 rec2) := by
  have hr : roomB 0 1 16 = true := by decide
  have e1 : T.pathC (roundPt s 0 (loPt s [] 0) 11 rec rec2) [true, false, true] = [recB rec, false, roomB 0 1 16] := by kernel_rfl
  have e2 : T.pathL (roundPt s 0 (loPt s [] 0) 11 rec rec2) [true, false, true] = .leaf (out0 s 11 rec2) := by kernel_rfl
  exact (T.pick_path [true, false, true] _ (e1.trans (by rw [recB_true, hr]))).trans (congrArg T.pick e2)
theorem rPt1_11 (s : Sty) (l : List ByteArray) (k : Nat) (rec rec2 : Loop) (ha : cnA s 11 = true) (hs : (txB s 11).size ≤ 1000) (hr : roomB l.length 1 16 = true) : (roundPt s (k + 1) (loPt s l (k + 1)) 11 rec rec2).pick = some (out1 s l 11 rec2) := by
  have e1 : T.pathC (roundPt s (k + 1) (loPt s l (k + 1)) 11 rec rec2) [true, false, true] = [recB rec, false, roomB l.length 1 16] := by kernel_rfl
  have e2 : T.pathL (roundPt s (k + 1) (loPt s l (k + 1)) 11 rec rec2) [true, false, true] = .leaf (out1 s l 11 rec2) := by kernel_rfl
  exact (T.pick_path [true, false, true] _ (e1.trans (by rw [recB_true, hr]))).trans (congrArg T.pick e2)
theorem rPt0_12 (s : Sty) (rec rec2 : Loop) (ha : cnA s 12 = true) (hs : (txB s 12).size ≤ 1000) : (roundPt s 0 (loPt s [] 0) 12 rec rec2).pick = some (out0 s 12 rec2) := by
  have hr : roomB 0 1 16 = true := by decide
  have e1 : T.pathC (roundPt s 0 (loPt s [] 0) 12 rec rec2) [true, true, true, true, true, true] = [recB rec, true, cnA s 12, szA (txB s 12), szB (nmB 12) (txB s 12), roomB 0 1 16] := by kernel_rfl
  have e2 : T.pathL (roundPt s 0 (loPt s [] 0) 12 rec rec2) [true, true, true, true, true, true] = .leaf (out0 s 12 rec2) := by kernel_rfl
  exact (T.pick_path [true, true, true, true, true, true] _ (e1.trans (by rw [recB_true, ha, szA_of hs, szB_of (nm_size 12 (by omega)) hs, hr]))).trans (congrArg T.pick e2)
theorem rPt1_12 (s : Sty) (l : List ByteArray) (k : Nat) (rec rec2 : Loop) (ha : cnA s 12 = true) (hs : (txB s 12).size ≤ 1000) (hr : roomB l.length 1 16 = true) : (roundPt s (k + 1) (loPt s l (k + 1)) 12 rec rec2).pick = some (out1 s l 12 rec2) := by
  have e1 : T.pathC (roundPt s (k + 1) (loPt s l (k + 1)) 12 rec rec2) [true, true, true, true, true, true] = [recB rec, true, cnA s 12, szA (txB s 12), szB (nmB 12) (txB s 12), roomB l.length 1 16] := by kernel_rfl
  have e2 : T.pathL (roundPt s (k + 1) (loPt s l (k + 1)) 12 rec rec2) [true, true, true, true, true, true] = .leaf (out1 s l 12 rec2) := by kernel_rfl
  exact (T.pick_path [true, true, true, true, true, true] _ (e1.trans (by rw [recB_true, ha, szA_of hs, szB_of (nm_size 12 (by omega)) hs, hr]))).trans (congrArg T.pick e2)
theorem rPt0_13 (s : Sty) (rec rec2 : Loop) (ha : cnA s 13 = true) (hs : (txB s 13).size ≤ 1000) : (roundPt s 0 (loPt s [] 0) 13 rec rec2).pick = some (out0 s 13 rec2) := by
  have hr : roomB 0 1 16 = true := by decide
  have e1 : T.pathC (roundPt s 0 (loPt s [] 0) 13 rec rec2) [true, false, true] = [recB rec, false, roomB 0 1 16] := by kernel_rfl
  have e2 : T.pathL (roundPt s 0 (loPt s [] 0) 13 rec rec2) [true, false, true] = .leaf (out0 s 13 rec2) := by kernel_rfl
  exact (T.pick_path [true, false, true] _ (e1.trans (by rw [recB_true, hr]))).trans (congrArg T.pick e2)
theorem rPt1_13 (s : Sty) (l : List ByteArray) (k : Nat) (rec rec2 : Loop) (ha : cnA s 13 = true) (hs : (txB s 13).size ≤ 1000) (hr : roomB l.length 1 16 = true) : (roundPt s (k + 1) (loPt s l (k + 1)) 13 rec rec2).pick = some (out1 s l 13 rec2) := by
  have e1 : T.pathC (roundPt s (k + 1) (loPt s l (k + 1)) 13 rec rec2) [true, false, true] = [recB rec, false, roomB l.length 1 16] := by kernel_rfl
  have e2 : T.pathL (roundPt s (k + 1) (loPt s l (k + 1)) 13 rec rec2) [true, false, true] = .leaf (out1 s l 13 rec2) := by kernel_rfl
  exact (T.pick_path [true, false, true] _ (e1.trans (by rw [recB_true, hr]))).trans (congrArg T.pick e2)
theorem rPt0_14 (s : Sty) (rec rec2 : Loop) (ha : cnA s 14 = true) (hs : (txB s 14).size ≤ 1000) : (roundPt s 0 (loPt s [] 0) 14 rec rec2).pick = some (out0 s 14 rec2) := by
  have hr : roomB 0 1 16 = true := by decide
  have e1 : T.pathC (roundPt s 0 (loPt s [] 0) 14 rec rec2) [true, true, true, true, true] = [recB rec, true, szA (txB s 14), szB (nmB 14) (txB s 14), roomB 0 1 16] := by kernel_rfl
  have e2 : T.pathL (roundPt s 0 (loPt s [] 0) 14 rec rec2) [true, true, true, true, true] = .leaf (out0 s 14 rec2) := by kernel_rfl
  exact (T.pick_path [true, true, true, true, true] _ (e1.trans (by rw [recB_true, szA_of hs, szB_of (nm_size 14 (by omega)) hs, hr]))).trans (congrArg T.pick e2)
theorem rPt1_14 (s : Sty) (l : List ByteArray) (k : Nat) (rec rec2 : Loop) (ha : cnA s 14 = true) (hs : (txB s 14).size ≤ 1000) (hr : roomB l.length 1 16 = true) : (roundPt s (k + 1) (loPt s l (k + 1)) 14 rec rec2).pick = some (out1 s l 14 rec2) := by
  have e1 : T.pathC (roundPt s (k + 1) (loPt s l (k + 1)) 14 rec rec2) [true, true, true, true, true] = [recB rec, true, szA (txB s 14), szB (nmB 14) (txB s 14), roomB l.length 1 16] := by kernel_rfl
  have e2 : T.pathL (roundPt s (k + 1) (loPt s l (k + 1)) 14 rec rec2) [true, true, true, true, true] = .leaf (out1 s l 14 rec2) := by kernel_rfl
  exact (T.pick_path [true, true, true, true, true] _ (e1.trans (by rw [recB_true, szA_of hs, szB_of (nm_size 14 (by omega)) hs, hr]))).trans (congrArg T.pick e2)
theorem rPt0_15 (s : Sty) (rec rec2 : Loop) (ha : cnA s 15 = true) (hs : (txB s 15).size ≤ 1000) : (roundPt s 0 (loPt s [] 0) 15 rec rec2).pick = some (out0 s 15 rec2) := by
  have hr : roomB 0 1 16 = true := by decide
  have e1 : T.pathC (roundPt s 0 (loPt s [] 0) 15 rec rec2) [true, true, true, true, true] = [recB rec, true, szA (txB s 15), szB (nmB 15) (txB s 15), roomB 0 1 16] := by kernel_rfl
  have e2 : T.pathL (roundPt s 0 (loPt s [] 0) 15 rec rec2) [true, true, true, true, true] = .leaf (out0 s 15 rec2) := by kernel_rfl
  exact (T.pick_path [true, true, true, true, true] _ (e1.trans (by rw [recB_true, szA_of hs, szB_of (nm_size 15 (by omega)) hs, hr]))).trans (congrArg T.pick e2)
theorem rPt1_15 (s : Sty) (l : List ByteArray) (k : Nat) (rec rec2 : Loop) (ha : cnA s 15 = true) (hs : (txB s 15).size ≤ 1000) (hr : roomB l.length 1 16 = true) : (roundPt s (k + 1) (loPt s l (k + 1)) 15 rec rec2).pick = some (out1 s l 15 rec2) := by
  have e1 : T.pathC (roundPt s (k + 1) (loPt s l (k + 1)) 15 rec rec2) [true, true, true, true, true] = [recB rec, true, szA (txB s 15), szB (nmB 15) (txB s 15), roomB l.length 1 16] := by kernel_rfl
  have e2 : T.pathL (roundPt s (k + 1) (loPt s l (k + 1)) 15 rec rec2) [true, true, true, true, true] = .leaf (out1 s l 15 rec2) := by kernel_rfl
  exact (T.pick_path [true, true, true, true, true] _ (e1.trans (by rw [recB_true, szA_of hs, szB_of (nm_size 15 (by omega)) hs, hr]))).trans (congrArg T.pick e2)
theorem rPt0 (s : Sty) (rec rec2 : Loop) : ∀ i, i < 16 → cnA s i = true → (txB s i).size ≤ 1000 → (roundPt s 0 (loPt s [] 0) i rec rec2).pick = some (out0 s i rec2)
  | 0, _, ha, hs => rPt0_0 s rec rec2 ha hs
  | 1, _, ha, hs => rPt0_1 s rec rec2 ha hs
  | 2, _, ha, hs => rPt0_2 s rec rec2 ha hs
  | 3, _, ha, hs => rPt0_3 s rec rec2 ha hs
  | 4, _, ha, hs => rPt0_4 s rec rec2 ha hs
  | 5, _, ha, hs => rPt0_5 s rec rec2 ha hs
  | 6, _, ha, hs => rPt0_6 s rec rec2 ha hs
  | 7, _, ha, hs => rPt0_7 s rec rec2 ha hs
  | 8, _, ha, hs => rPt0_8 s rec rec2 ha hs
  | 9, _, ha, hs => rPt0_9 s rec rec2 ha hs
  | 10, _, ha, hs => rPt0_10 s rec rec2 ha hs
  | 11, _, ha, hs => rPt0_11 s rec rec2 ha hs
  | 12, _, ha, hs => rPt0_12 s rec rec2 ha hs
  | 13, _, ha, hs => rPt0_13 s rec rec2 ha hs
  | 14, _, ha, hs => rPt0_14 s rec rec2 ha hs
  | 15, _, ha, hs => rPt0_15 s rec rec2 ha hs
  | n + 16, hn, _, _ => by omega
theorem rPt1 (s : Sty) (l : List ByteArray) (k : Nat) (rec rec2 : Loop) (hr : roomB l.length 1 16 = true) : ∀ i, i < 16 → cnA s i = true → (txB s i).size ≤ 1000 → (roundPt s (k + 1) (loPt s l (k + 1)) i rec rec2).pick = some (out1 s l i rec2)
  | 0, _, ha, hs => rPt1_0 s l k rec rec2 ha hs hr
  | 1, _, ha, hs => rPt1_1 s l k rec rec2 ha hs hr
  | 2, _, ha, hs => rPt1_2 s l k rec rec2 ha hs hr
  | 3, _, ha, hs => rPt1_3 s l k rec rec2 ha hs hr
  | 4, _, ha, hs => rPt1_4 s l k rec rec2 ha hs hr
  | 5, _, ha, hs => rPt1_5 s l k rec rec2 ha hs hr
  | 6, _, ha, hs => rPt1_6 s l k rec rec2 ha hs hr
  | 7, _, ha, hs => rPt1_7 s l k rec rec2 ha hs hr
  | 8, _, ha, hs => rPt1_8 s l k rec rec2 ha hs hr
  | 9, _, ha, hs => rPt1_9 s l k rec rec2 ha hs hr
  | 10, _, ha, hs => rPt1_10 s l k rec rec2 ha hs hr
  | 11, _, ha, hs => rPt1_11 s l k rec rec2 ha hs hr
  | 12, _, ha, hs => rPt1_12 s l k rec rec2 ha hs hr
  | 13, _, ha, hs => rPt1_13 s l k rec rec2 ha hs hr
  | 14, _, ha, hs => rPt1_14 s l k rec rec2 ha hs hr
  | 15, _, ha, hs => rPt1_15 s l k rec rec2 ha hs hr
  | n + 16, hn, _, _ => by omega
end Go.Proofs.YtgmeglodnhagdaaGreatDoor

/-! ## StJ -/
namespace Go.Proofs.YtgmeglodnhagdaaGreatDoor
open Go Go.SX Go.Proofs Go.RowKit
set_option maxRecDepth 100000
variable [EA]
set_option linter.unusedVariables false
set_option linter.unusedSectionVars false
set_option linter.unusedSimpArgs false

/-! ### what is right -/
theorem allIn_at {a b : Int} {n : Nat} {l : List Int} (i : Nat) {x : Int} (h : allIn a b n (iL l) = true) (hi : i < n) (hx : qInt (iL l i 0) = x) : a ≤ x ∧ x ≤ b := by
  have h1 := allN_at h hi
  rw [hx] at h1
  unfold outB at h1
  by_cases e1 : x < a
  · rw [decide_eq_true e1] at h1; cases h1
  · by_cases e2 : x > b
    · rw [decide_eq_false e1, decide_eq_true e2] at h1; cases h1
    · omega
theorem bif_and {p q : Bool} (h : (bif p then q else false) = true) : p = true ∧ q = true := by
  cases p <;> simp_all
structure RightS (s : Sty) : Prop where
  c : 0 ≤ s.c ∧ s.c ≤ 50
  w : 0 ≤ s.w ∧ s.w ≤ 1048576
  g : 0 ≤ s.g ∧ s.g ≤ 1048576
  r : 0 ≤ s.r ∧ s.r ≤ 1048576
  h : 0 ≤ s.h ∧ s.h ≤ 1048576
  t : -1048576 ≤ s.t ∧ s.t ≤ 1048576
  bo : -1048576 ≤ s.bo ∧ s.bo ≤ 1048576
  o : 1 ≤ s.o ∧ s.o ≤ 20
  wi : 1 ≤ s.wi ∧ s.wi ≤ 20
  b : 0 ≤ s.b ∧ s.b ≤ 2
  af : 0 ≤ s.af ∧ s.af ≤ 2
  si : 0 ≤ s.si ∧ s.si ≤ 2
theorem rightS_of {s : Sty} (h : rightS s = true) : RightS s := by
  unfold rightS at h
  obtain ⟨h1, h⟩ := bif_and h
  obtain ⟨h2, h⟩ := bif_and h
  obtain ⟨h3, h⟩ := bif_and h
  obtain ⟨h4, h⟩ := bif_and h
  obtain ⟨h5, h⟩ := bif_and h
  exact ⟨allIn_at 0 h1 (by omega) rfl, allIn_at 0 h2 (by omega) rfl, allIn_at 1 h2 (by omega) rfl, allIn_at 2 h2 (by omega) rfl, allIn_at 3 h2 (by omega) rfl, allIn_at 0 h3 (by omega) rfl, allIn_at 1 h3 (by omega) rfl,
    allIn_at 0 h4 (by omega) rfl, allIn_at 1 h4 (by omega) rfl, allIn_at 0 h5 (by omega) rfl, allIn_at 1 h5 (by omega) rfl, allIn_at 0 h (by omega) rfl⟩

/-! ### what a part asks -/
theorem wdI_eq {n : Int} (h : 0 ≤ n ∧ n ≤ 2) : wdI n = (if 1 > n then 1 else n) - 1 := by
  unfold wdI
  rw [w64_id (by split <;> split <;> omega) (by split <;> split <;> omega)]
  split <;> split <;> omega
theorem wdB_of {n : Int} (h : 0 ≤ n ∧ n ≤ 2) : wdB n = true := by
  have := wdI_eq h
  refine decide_eq_true ?_
  rw [this]
  split <;> omega
theorem cnA_of {s : Sty} (h : RightS s) : ∀ i, i < 16 → cnA s i = true
  | 0, _ => decide_eq_true (by have := h.c; show -9223372036854775808 ≤ s.c ∧ s.c ≤ 9223372036854775807; omega)
  | 1, _ => rfl
  | 2, _ => rfl
  | 3, _ => rfl
  | 4, _ => rfl
  | 5, _ => rfl
  | 6, _ => decide_eq_true (by have := h.o; show -9223372036854775808 ≤ s.o ∧ s.o ≤ 9223372036854775807; omega)
  | 7, _ => decide_eq_true (by have := h.wi; show -9223372036854775808 ≤ s.wi ∧ s.wi ≤ 9223372036854775807; omega)
  | 8, _ => rfl
  | 9, _ => wdB_of h.b
  | 10, _ => wdB_of h.af
  | 11, _ => rfl
  | 12, _ => wdB_of h.si
  | 13, _ => rfl
  | 14, _ => rfl
  | 15, _ => rfl
  | n + 16, hn => by omega
theorem digL_len (u : Nat) : (digL u).length ≤ 20 := digF_len 19 u
theorem printL_len (a : Int) : (printL a).length ≤ 142 := by
  have h1 := digL_len (a.natAbs / 64)
  have h2 := restF_len 6 (a.natAbs % 64)
  unfold printL
  cases decide (a < 0) <;> cases a.natAbs % 64 == 0 <;> simp only [cond_true, cond_false, List.length_append, List.length_nil, List.length_cons] <;> omega
theorem printT_size (a : Int) : (printT a).size ≤ 1000 := by
  have := printL_len a
  unfold printT
  cases rightU a
  · rw [cond_false]; decide
  · rw [cond_true, ← bL_len, bL_bT]; omega
theorem itT_size {n : Int} (h : 0 ≤ n ∧ n ≤ 1000) : (bT (Lib.itoa n)).size ≤ 1000 := by
  have := Lib.itoa_length_le n (by omega) (by omega)
  rw [← bL_len, bL_bT]; omega
theorem wdT_size {a b : ByteArray} (ha : a.size ≤ 1000) (hb : b.size ≤ 1000) {n : Int} (h : 0 ≤ n ∧ n ≤ 2) : (qStr (wrdG a b (wdI n).toNat 0)).size ≤ 1000 := by
  have := wdI_eq h
  have h2 : (wdI n).toNat = 0 ∨ (wdI n).toNat = 1 := by
    rw [this]; split <;> omega
  rcases h2 with h2 | h2 <;> rw [h2] <;> assumption
theorem tx_size {s : Sty} (h : RightS s) : ∀ i, i < 16 → (txB s i).size ≤ 1000
  | 0, _ => itT_size (n := s.c) (by have := h.c; omega)
  | 1, _ => printT_size _
  | 2, _ => printT_size _
  | 3, _ => printT_size _
  | 4, _ => by show (bT []).size ≤ 1000; decide
  | 5, _ => printT_size _
  | 6, _ => itT_size (n := s.o) (by have := h.o; omega)
  | 7, _ => itT_size (n := s.wi) (by have := h.wi; omega)
  | 8, _ => by show (bT []).size ≤ 1000; decide
  | 9, _ => wdT_size (by decide) (by decide) h.b
  | 10, _ => wdT_size (by decide) (by decide) h.af
  | 11, _ => by show (bT []).size ≤ 1000; decide
  | 12, _ => wdT_size (by decide) (by decide) h.si
  | 13, _ => by show (bT []).size ≤ 1000; decide
  | 14, _ => printT_size _
  | 15, _ => printT_size _
  | n + 16, hn => by omega
theorem el_size {s : Sty} (h : RightS s) {i : Nat} (hi : i < 16) : (elB s i).size ≤ 2001 := by
  have h1 := tx_size h i hi
  have h2 := nm_size i hi
  have h3 : (bT [32]).size = 1 := rfl
  unfold elB
  cases hasF i
  · rw [cond_false]; omega
  · rw [cond_true, ByteArray.size_append, ByteArray.size_append]; omega
/-- A style's parts. -/
def prtP (s : Sty) : List ByteArray := (dfs s plainS 16).map (elB s)
theorem prtP_len (s : Sty) : (prtP s).length = (dfs s plainS 16).length := by simp [prtP]

/-! ### the range -/
theorem rangePt (s : Sty) (h : RightS s) : ∀ x, (T.leaf (Ex.normal, outS (SPt s) (loPt s (prtP s) (prtP s).length) [])).pick = some x → SemC Tryz.prog (.rangeFunc (.tmp 12) #[13] rfPt.1 rfPt.2) (SPt s) x := by
  intro x hx
  have hlen := prtP_len s
  have h16 := dfs_len s plainS
  have H : Rounds Tryz.prog ΓPt [] pPt rfPt.1 rfPt.2 (#[13] : Array Nat).toList (SPt s) (if (SPt s).inr then none else some .dfr) ((SPt s).tm.map fun _ => .any)
      (fun k => loPt s ((prtP s).take k) k) (fun _ => []) (xDf s plainS) (dfs s plainS 16).length (fun _ => .normal) := by
    refine rounds_ofP postPt postPt_ok (fun _ => 6) (fun k => ?_) (fun k _ => rfl) fun k hk hn rec rec' => ?_
    · cases k <;> simp [SPt, mkS]
    · have hi := dfs_mem (n := 16) hk
      have ht := takeD_suc s plainS (elB s) hk
      cases k with
      | zero =>
        refine (rPt0 s rec rec' _ hi (cnA_of h _ hi) (tx_size h _ hi)).trans ?_
        show some _ = some _
        rw [show (prtP s).take (0 + 1) = [elB s ((dfs s plainS 16).getD 0 0)] from ht]; rfl
      | succ k =>
        have hl : ((prtP s).take (k + 1)).length = k + 1 := by rw [List.length_take]; omega
        have hr : roomB ((prtP s).take (k + 1)).length 1 16 = true := by rw [hl]; simp [roomB]; omega
        refine (rPt1 s ((prtP s).take (k + 1)) k rec rec' hr _ hi (cnA_of h _ hi) (tx_size h _ hi)).trans ?_
        rw [out1, catG_of strQ, show (prtP s).take (k + 1) ++ [elB s ((dfs s plainS 16).getD (k + 1) 0)] = (prtP s).take (k + 1 + 1) from ht.symm]
        show some _ = some _
        have : ((prtP s).take (k + 1)).length + 1 = ((prtP s).take (k + 1 + 1)).length := by rw [hl, List.length_take]; omega
        rw [this]; rfl
  have hc : codeAt (cod Tryz.f10) pPt = some (.rangeFunc (.tmp 12) #[13] rfPt.1 rfPt.2) := by kernel_rfl
  have hsp : (differI.s (difC s plainS)).pick = some ((dfs s plainS 16).length, xDf s plainS) := rfl
  cases hx
  have := sem_range ΓPt.ok (LamOK.nil _ _) hc (f := 38) (caps := difC s plainS) rfl rfl differI.ok hsp H rfl rfl (m := (dfs s plainS 16).length) (e := .normal) ⟨Nat.le_refl _, .inl ⟨rfl, rfl, fun j _ => rfl⟩⟩ (by cases (dfs s plainS 16).length <;> trivial) (fun d hd => by simp [SPt, mkS] at hd)
  rw [← hlen, List.take_length] at this
  exact this

/-! ### Join, Print -/
def join2.s : List V → T V
  | [.q (.c (.slice none 0 0)), .q (.c (.string sep))] => .leaf (V.s (bT []))
  | l => join.s l
theorem join2.ok : SpecOK Tryz.prog 25 join2.s := by
  refine ⟨join.ok.1, fun S w args vals r hS hg h3 hd hr => ?_⟩
  unfold join2.s at hr
  split at hr
  · rename_i sep
    have hd2 := Weak.nilL (ks := [.str]) (g := fun _ _ => default) (fun _ _ _ h => h) S w vals hd
    refine join.ok.2 S w _ vals r hS hg h3 hd2 ?_
    rw [← hr]
    show (T.ite (decide (0 ≤ 1000000 ∧ (Lib.join ((strsL 0 _).map bL) (bL sep)).length ≤ 140737488355328)) _ .bad).pick = _
    rw [decide_eq_true (by simp [strsL, Lib.join_nil])]
    rfl
  · exact join.ok.2 S w _ vals r hS hg h3 hd hr
abbrev semiB : ByteArray := bT [59, 32]
theorem strsL_of (l : List ByteArray) : strsL l.length (gOf strQ l) = l := by
  apply List.ext_getElem
  · simp
  · intro i h1 h2
    simp only [strsL, List.getElem_map, List.getElem_range]
    rw [gOf_at strQ l h2]; rfl
theorem joinTail_len {sep : List UInt8} : ∀ {l : List (List UInt8)}, (∀ x ∈ l, x.length ≤ 2001) → (Lib.joinTail sep l).length ≤ (2001 + sep.length) * l.length
  | [], _ => by simp [Lib.joinTail]
  | x :: l, h => by
    have h1 := joinTail_len (sep := sep) fun y hy => h y (List.mem_cons_of_mem _ hy)
    have h2 := h x (List.mem_cons_self ..)
    simp only [Lib.joinTail, List.map_cons, List.flatten_cons, List.length_append, List.length_cons] at h1 ⊢
    rw [Nat.mul_add]; omega
theorem join_len {sep : List UInt8} {l : List (List UInt8)} (h : ∀ x ∈ l, x.length ≤ 2001) : (Lib.join l sep).length ≤ (2001 + sep.length) * l.length := by
  cases l with
  | nil => simp [Lib.join_nil]
  | cons x l =>
    have h1 := joinTail_len (sep := sep) fun y hy => h y (List.mem_cons_of_mem _ hy)
    have h2 := h x (List.mem_cons_self ..)
    rw [Lib.join_cons, List.length_append, List.length_cons, Nat.mul_add]; omega
theorem prtP_join (s : Sty) (h : RightS s) : (Lib.join ((prtP s).map bL) (bL semiB)).length ≤ 1000000 := by
  have h1 := join_len (sep := bL semiB) (l := (prtP s).map bL) fun x hx => by
    obtain ⟨y, hy, rfl⟩ := List.mem_map.1 hx
    obtain ⟨i, hi, rfl⟩ := List.mem_map.1 hy
    rw [bL_len]
    exact el_size h (List.mem_range.1 (List.mem_filter.1 hi).1)
  have h2 := dfs_len s plainS
  have h3 : ((prtP s).map bL).length ≤ 16 := by rw [List.length_map, prtP_len]; exact h2
  have h4 : (bL semiB).length = 2 := rfl
  rw [h4] at h1
  have : (2001 + 2) * ((prtP s).map bL).length ≤ (2001 + 2) * 16 := Nat.mul_le_mul_left _ h3
  omega
/-- A style's text. -/
abbrev sTxt (s : Sty) : ByteArray := joinB (prtP s) semiB
abbrev ΓPj : Gam := [(24, differ.s), (15, right.s), (16, plain.s), (25, join2.s)]
theorem ΓPj.ok : GOK Tryz.prog ΓPj := .cons differ.ok (.cons right.ok (.cons plain.ok (.cons join2.ok (GOK.nil _))))
noncomputable abbrev orPt (s : Sty) (lo : List (Option Ob)) : Lam := [(pPt, orc false 31 2 [1, 4, 12] (SPt s) (.leaf (Ex.normal, outS (SPt s) lo [])))]
abbrev noPt : V := .tup [V.s (bT []), V.i 40]
abbrev prTup (t : ByteArray) : V := .tup [V.s t, V.i 0]
theorem eqPt1 (s : Sty) (m : Nat) (h : Nat → Nat → Q) : funV Tryz.prog ΓPj (orPt s [celS s, celT (.own 5), some (.vec 9 [.str] m h)]) Tryz.f10 (cod Tryz.f10) [styV s] =
    .ite (!(rightS s)) (.leaf noPt) (.ite (@decide (SPt s = SPt s) (Classical.propDecidable _)) (.ite (decide (m ≤ 1000000 ∧ (Lib.join ((strsL m h).map bL) (bL semiB)).length ≤ 140737488355328)) (.leaf (prTup (joinB (strsL m h) semiB))) .bad) .bad) := by kernel_rfl
theorem eqPt0 (s : Sty) : funV Tryz.prog ΓPj (orPt s [celS s, celT nilT]) Tryz.f10 (cod Tryz.f10) [styV s] =
    .ite (!(rightS s)) (.leaf noPt) (.ite (@decide (SPt s = SPt s) (Classical.propDecidable _)) (.leaf (prTup (bT []))) .bad) := by kernel_rfl
theorem eqPtN (s : Sty) : funV Tryz.prog ΓPj [] Tryz.f10 (cod Tryz.f10) [styV s] = .ite (!(rightS s)) (.leaf noPt) .bad := by kernel_rfl
abbrev print.s := sty1 fun s => .ite (rightS s) (.leaf (prTup (sTxt s))) (.leaf noPt)
theorem sty1_inv {F : Sty → T V} {args : List V} {r : V} (h : (sty1 F args).pick = some r) : ∃ s, args = [styV s] ∧ (F s).pick = some r := by
  unfold sty1 at h
  split at h
  · obtain ⟨s, rfl, h2⟩ := onSt_pick h
    exact ⟨s, rfl, h2⟩
  · cases h
theorem print.ok : SpecOK Tryz.prog 10 print.s := by
  refine okF ΓPj.ok Tryz.func10 (by kernel_rfl) (by kernel_rfl) fun args r hb hr => ?_
  · obtain ⟨s, rfl, hr2⟩ := sty1_inv hr
    replace hr := hr2
    rw [pick_ite] at hr
    cases hR : rightS s with
    | false =>
      rw [hR] at hr
      exact ⟨[], LamOK.nil _ _, (congrArg T.pick (eqPtN s)).trans (by rw [hR]; exact hr)⟩
    | true =>
      rw [hR, cond_true] at hr
      have hS := rightS_of hR
      refine ⟨orPt s (loPt s (prtP s) (prtP s).length), LamOK.orc (c := .rangeFunc (.tmp 12) #[13] rfPt.1 rfPt.2) (by kernel_rfl) (rangePt s hS) (LamOK.nil _ _), ?_⟩
      rw [← hr]
      cases hn : (prtP s).length with
      | zero =>
        refine (congrArg T.pick (eqPt0 s)).trans ?_
        rw [hR]
        refine (pick_same _ _).trans ?_
        rw [show sTxt s = bT [] by
          show joinB (prtP s) semiB = _
          rw [List.eq_nil_of_length_eq_zero hn]; rfl]
      | succ n =>
        refine (congrArg T.pick (eqPt1 s (prtP s).length (gOf strQ (prtP s)))).trans ?_
        rw [hR]
        refine (pick_same _ _).trans ?_
        have h1 := prtP_join s hS
        have h2 := dfs_len s plainS
        have h3 := prtP_len s
        rw [strsL_of, decide_eq_true (show (prtP s).length ≤ 1000000 ∧ (Lib.join ((prtP s).map bL) (bL semiB)).length ≤ 140737488355328 from ⟨by omega, by omega⟩)]
        rfl
end Go.Proofs.YtgmeglodnhagdaaGreatDoor
