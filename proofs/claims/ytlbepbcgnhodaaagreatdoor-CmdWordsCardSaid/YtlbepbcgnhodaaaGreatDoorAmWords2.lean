/- hamperlaw30.CmdWords: its run. -/
import Derived.Test.YtlbepbcgnhodaaaGreatDoorAmWords
set_option linter.all false
set_option maxRecDepth 100000
namespace Go.AM
open Go.RowKit
namespace Tryz

def sq1 : Code → Code
  | .seq a _ => a
  | c => c
def sq2 : Code → Code
  | .seq _ b => b
  | c => c
def rOps : Code → Array Oper
  | .region _ ops _ => ops
  | _ => #[]
def rId : Code → Nat
  | .region i _ _ => i
  | _ => 0
def binY : Op → TypeId
  | .binOp _ _ _ _ y => y
  | _ => 0
def cTh : Code → Code
  | .cond _ a _ => a
  | c => c
noncomputable def b7 : Code := (Go.Proofs.Tryz.f7.body).getD .skip
noncomputable def R0 : Code := sq1 b7
noncomputable def R1 : Code := sq1 (sq2 b7)
noncomputable def K2 : Code := sq1 (sq2 (sq2 b7))
noncomputable def K4 : Code := sq1 (sq2 (sq2 (sq2 b7)))
noncomputable def REST : Code := sq2 (sq2 (sq2 (sq2 b7)))
noncomputable def ops2 : Array Oper := rOps (sq1 K2)
noncomputable def ops3 : Array Oper := rOps (cTh (sq2 K2))
noncomputable def ops4 : Array Oper := rOps (sq1 K4)
noncomputable def ops5 : Array Oper := rOps (cTh (sq2 K4))
theorem b7_eq : b7 = .seq R0 (.seq R1 (.seq K2 (.seq K4 REST))) := by kernel_rfl
theorem K2_eq : K2 = .seq (.region (rId (sq1 K2)) ops2 false) (.cond (.tmp 25) (.region (rId (cTh (sq2 K2))) ops3 false) .skip) := by kernel_rfl
theorem K4_eq : K4 = .seq (.region (rId (sq1 K4)) ops4 false) (.cond (.tmp 30) (.region (rId (cTh (sq2 K4))) ops5 false) .skip) := by kernel_rfl

noncomputable def args7 (f s : Bool) : Array Value := #[.agg #[.string (ph 1), .string (ph 2), .bool f, .bool s]]
noncomputable def nrm (r : R (Xit × Fr × St)) : R (Fr × St) :=
  match r with
  | some (.normal, fr, st) => some (fr, st)
  | _ => none
noncomputable def N : Nat := 100000
noncomputable def pre (f s : Bool) : R (Fr × St) :=
  (nrm (exec E1 (callF E1 N) none N R0 (enterA 88 (args7 f s)) { h := .nil, next := 40, loops := .nil })).bind fun x =>
  nrm (exec E1 (callF E1 N) none N R1 x.1 x.2)
def isStr (v : Option Value) (s : ByteArray) : Bool :=
  match v with
  | some (.string t) => decide (t = s)
  | _ => false
noncomputable def cut1 (t : Tr Value) : Tr Value := (((((t.put 23 none).put 24 none).put 25 none).put 26 none).put 27 none).put 3 (some (.string (ph 3)))
noncomputable def cut2 (t : Tr Value) : Tr Value := (((((t.put 28 none).put 29 none).put 30 none).put 31 none).put 32 none).put 4 (some (.string (ph 4)))
noncomputable def fin (r : R (Xit × Fr × St)) : Bool :=
  match r with
  | some (.ret, fr, st) => fr.ds.isEmpty && (match resultsA E1 fi7 fr st with | some (.bool b) => b | _ => false)
  | _ => false
noncomputable def chk (f s : Bool) : Bool :=
  match pre f s with
  | some (fr, st) => isStr (fr.t.get 3) (ph 1) && isStr ((cut1 fr.t).get 4) (ph 2) && Nat.beq fr.n 88 && fin (exec E1 (callF E1 N) none N REST { fr with t := cut2 (cut1 fr.t) } st)
  | none => false
theorem chk_tt : chk true true = true := by kernel_rfl
theorem chk_tf : chk true false = true := by kernel_rfl
theorem chk_ft : chk false true = true := by kernel_rfl
theorem chk_ff : chk false false = true := by kernel_rfl
theorem chk_all (f s : Bool) : chk f s = true := by
  cases f <;> cases s
  · exact chk_ff
  · exact chk_ft
  · exact chk_tf
  · exact chk_tt
theorem isStr_spec {v : Option Value} {s : ByteArray} (h : isStr v s = true) : v = some (.string s) := by
  unfold isStr at h
  split at h
  · rw [of_decide_eq_true h]
  · cases h
theorem nrm_spec {r : R (Xit × Fr × St)} {fr : Fr} {st : St} (h : nrm r = some (fr, st)) : r = some (.normal, fr, st) := by
  unfold nrm at h
  split at h
  · simp only [Option.some.injEq, Prod.mk.injEq] at h; obtain ⟨rfl, rfl⟩ := h; rfl
  · cases h
theorem fin_spec {r : R (Xit × Fr × St)} (h : fin r = true) : ∃ fr st, r = some (.ret, fr, st) ∧ fr.ds = [] ∧ resultsA E1 fi7 fr st = some (.bool true) := by
  unfold fin at h
  split at h
  · rename_i fr st
    rw [Bool.and_eq_true] at h
    refine ⟨fr, st, rfl, List.isEmpty_iff.1 h.1, ?_⟩
    have h2 := h.2
    split at h2
    · rename_i b hb; rw [hb, h2]
    · cases h2
  · cases h
theorem chk_spec {f s : Bool} (h : chk f s = true) : ∃ fr0 st0 fr st fr' st', exec E1 (callF E1 N) none N R0 (enterA 88 (args7 f s)) { h := .nil, next := 40, loops := .nil } = some (.normal, fr0, st0) ∧
    exec E1 (callF E1 N) none N R1 fr0 st0 = some (.normal, fr, st) ∧ fr.t.get 3 = some (.string (ph 1)) ∧ (cut1 fr.t).get 4 = some (.string (ph 2)) ∧ fr.n = 88 ∧
    exec E1 (callF E1 N) none N REST { fr with t := cut2 (cut1 fr.t) } st = some (.ret, fr', st') ∧ fr'.ds = [] ∧ resultsA E1 fi7 fr' st' = some (.bool true) := by
  unfold chk at h
  split at h
  · rename_i fr st hp
    simp only [Bool.and_eq_true] at h
    obtain ⟨⟨⟨h1, h2⟩, h3⟩, h4⟩ := h
    obtain ⟨fr', st', q1, q2, q3⟩ := fin_spec h4
    unfold pre at hp
    rw [Option.bind_eq_some_iff] at hp
    obtain ⟨⟨fr0, st0⟩, p1, p2⟩ := hp
    exact ⟨fr0, st0, fr, st, fr', st', nrm_spec p1, nrm_spec p2, isStr_spec h1, isStr_spec h2, Nat.eq_of_beq_eq_true h3, q1, q2, q3⟩
  · cases h

def rho (A B : ByteArray) (s : ByteArray) : ByteArray :=
  if s = ph 1 then A else if s = ph 2 then B else if s = ph 3 then cutAt 100 A else if s = ph 4 then cutAt 100 B else s

theorem words_run (A B : ByteArray) (f s : Bool) (w : World) : Calls Go.Proofs.Tryz.prog 7 #[.agg #[.string A, .string B, .bool f, .bool s]] w fun e w' => e = .returned (.bool true) ∧ Below w.heap.size w w' := by
  letI : Syms := ⟨rho A B⟩
  have s1 : stv (ph 1) = A := by
    have : isPh (ph 1) = true := by decide +kernel
    simp only [stv, this, if_true]; show rho A B (ph 1) = A; unfold rho; rw [if_pos rfl]
  have s2 : stv (ph 2) = B := by
    have : isPh (ph 2) = true := by decide +kernel
    simp only [stv, this, if_true]; show rho A B (ph 2) = B; unfold rho; rw [if_neg (by decide +kernel), if_pos rfl]
  have s3 : stv (ph 3) = cutAt 100 A := by
    have : isPh (ph 3) = true := by decide +kernel
    simp only [stv, this, if_true]; show rho A B (ph 3) = _; unfold rho; rw [if_neg (by decide +kernel), if_neg (by decide +kernel), if_pos rfl]
  have s4 : stv (ph 4) = cutAt 100 B := by
    have : isPh (ph 4) = true := by decide +kernel
    simp only [stv, this, if_true]; show rho A B (ph 4) = _; unfold rho; rw [if_neg (by decide +kernel), if_neg (by decide +kernel), if_neg (by decide +kernel), if_pos rfl]
  obtain ⟨fr0, st0, fr, st, fr', st', h0, h1, h3, h4, hn, h5, h6, h7⟩ := chk_spec (chk_all f s)
  have C := callF_ok (w0 := w) ok1 (prims1 w) N
  have hf7 : Go.Proofs.Tryz.prog.funcs[7]? = some Go.Proofs.Tryz.f7 := Go.Proofs.Tryz.func7
  have hb7 : Go.Proofs.Tryz.f7.body = some b7 := by kernel_rfl
  refine Calls.mono (callsIn_wide.1 (callsIn_of_wp_marks (F := Fence.wide) (n := 0) (R := fun e w' => e = .returned (.bool true) ∧ Below w.heap.size w w') hf7 hb7 trivial ?_)) fun e W h => h
  have hargs : ARel (fun _ => none) (args7 f s) #[.agg #[.string A, .string B, .bool f, .bool s]] := by
    refine ARel.of rfl fun i v w hv hw => ?_
    match i with
    | 0 =>
      simp only [args7, List.getElem?_toArray, List.getElem?_cons_zero, Option.some.injEq] at hv hw
      subst hv; subst hw
      refine .agg rfl fun j v w hv hw => ?_
      match j with
      | 0 => simp at hv hw; subst hv; subst hw; rw [← s1]; exact .string _
      | 1 => simp at hv hw; subst hv; subst hw; rw [← s2]; exact .string _
      | 2 => simp at hv hw; subst hv; subst hw; exact .bool _
      | 3 => simp at hv hw; subst hv; subst hw; exact .bool _
      | j + 4 => simp at hv
    | i + 1 => simp [args7] at hv
  have hent := enterA_rel (k := 88) hargs
  rw [b7_eq]
  have hw0 := wrel_nil E1 w
  have x0 := exec_wp (n := 0) ok1 C N none none R0 _ _ _ _ _ (fun _ => none) _ w trivial h0 hw0 hent (fun _ _ => rfl) (by decide)
  refine wpIn_seq (wpIn_mono x0 fun e1 a1 W1 => ?_)
  rintro ⟨φ1, F1, g1, hx1⟩
  cases e1 <;> first | exact hx1.elim | skip
  have hl40 : E1.lim ≤ 40 := by decide
  have hl1 : E1.lim ≤ st0.next := Nat.le_trans hl40 F1.up
  have x1 := exec_wp (n := 0) ok1 C N none none R1 _ _ _ _ _ φ1 _ W1 trivial h1 F1.w g1 F1.new hl1
  refine wpIn_seq (wpIn_mono x1 fun e2 a2 W2 => ?_)
  rintro ⟨φ2, F2, g2, hx2⟩
  cases e2 <;> first | exact hx2.elim | skip
  have hl2 : E1.lim ≤ st.next := Nat.le_trans hl1 F2.up
  have hst : E1.P.underlying 9 = some .string := by kernel_rfl
  refine wpIn_seq ?_
  rw [K2_eq]
  refine clamp_wp (E := E1) (w0 := w) (N := 100) (t := 3) (tm := 23) (tl := 24) (tb := 25) (ts := 26) (tr := 27) (o0 := ops2[0]!) (o1 := ops2[1]!) (o2 := ops2[2]!) (o3 := ops3[0]!) (o4 := ops3[1]!) (o5 := ops3[2]!) (st := 9) (it := 3) (z1 := 0) (by kernel_rfl) (by kernel_rfl)
    ⟨by kernel_rfl, by kernel_rfl, by kernel_rfl⟩ ⟨by kernel_rfl, by kernel_rfl, by kernel_rfl⟩ ⟨by kernel_rfl, ⟨binY ops2[2]!.op, by kernel_rfl⟩, by kernel_rfl⟩ ⟨by kernel_rfl, by kernel_rfl, by kernel_rfl⟩ ⟨by kernel_rfl, by kernel_rfl, by kernel_rfl⟩ ⟨by kernel_rfl, by kernel_rfl, by kernel_rfl⟩
    hst g2 h3 (p' := ph 3) (by rw [s1, s3]) (by rw [hn]; decide) (by decide) fun a3 g3 => ?_
  refine wpIn_seq ?_
  rw [K4_eq]
  refine clamp_wp (E := E1) (w0 := w) (N := 100) (t := 4) (tm := 28) (tl := 29) (tb := 30) (ts := 31) (tr := 32) (o0 := ops4[0]!) (o1 := ops4[1]!) (o2 := ops4[2]!) (o3 := ops5[0]!) (o4 := ops5[1]!) (o5 := ops5[2]!) (st := 9) (it := 3) (z1 := 0) (by kernel_rfl) (by kernel_rfl)
    ⟨by kernel_rfl, by kernel_rfl, by kernel_rfl⟩ ⟨by kernel_rfl, by kernel_rfl, by kernel_rfl⟩ ⟨by kernel_rfl, ⟨binY ops4[2]!.op, by kernel_rfl⟩, by kernel_rfl⟩ ⟨by kernel_rfl, by kernel_rfl, by kernel_rfl⟩ ⟨by kernel_rfl, by kernel_rfl, by kernel_rfl⟩ ⟨by kernel_rfl, by kernel_rfl, by kernel_rfl⟩
    hst g3 h4 (p' := ph 4) (by rw [s2, s4]) (by show _ < fr.n ∧ _; rw [hn]; decide) (by decide) fun a4 g4 => ?_
  have x5 := exec_wp (n := 0) ok1 C N none none REST _ _ _ _ _ φ2 _ W2 trivial h5 F2.w g4 F2.new hl2
  refine wpIn_mono x5 fun e5 a5 W5 => ?_
  rintro ⟨φ5, F5, g5, hx5⟩
  cases e5 <;> first | exact hx5.elim | skip
  show LeavesInM (Fw none) 0 E1.P Go.Proofs.Tryz.f7 a5.tmps (fun e w' => e = .returned (.bool true) ∧ Below w.heap.size w w') a5.defers .returning W5
  refine runDefers_ok (k := N) ok1 C fr'.ds none st' none st' φ5 .returning W5 a5.defers (by rw [h6]; rfl) trivial g5.ds F5.w F5.new (Nat.le_trans hl2 F5.up) fun φ6 m6 W6 F6 M6 => ?_
  obtain ⟨v', q1, q2⟩ := results_rel (fn := Go.Proofs.Tryz.f7) ok1 (by kernel_rfl) F6.w (g5.fr.mono F6.le) h7
  cases q2
  cases m6 <;> first | exact M6.elim | exact ⟨_, q1, rfl, F6.w.keep⟩
end Tryz
end Go.AM
