/- Functions of the program as plain Lean functions over the abstract heap, each with its proof. Printed by gen2.py. -/
import Derived.Test.YtgplcfblbkmcmaaGreatProg
import Derived.Test.YtgplcfblbkmcmaaGreatN
import Derived.KernelRfl
set_option maxRecDepth 100000
set_option linter.unusedVariables false
namespace Go.Abs.P
open Go.Abs Go.Proofs
abbrev u17owt0 (R : Type) := Int → AH → Option R
def u17ows0 (t4 : Int) : List Value := un 4 (vi t4 :: un 46 [])
def cu17ow_1_2_3_4 : ACode := .seq (.region [oI 4 (.mv (ci 0))] []) (.ret)
abbrev u17owt1 (R : Type) := AH → Option R
def u17ows1 : List Value := un 51 []
abbrev u17owt2 (R : Type) := OA → Sl → Int → Int → AH → Option R
def u17ows2 (t0 : OA) (t38 : Sl) (t39 t40 : Int) : List Value := vn t0 :: un 37 (t38.v :: vi t39 :: vi t40 :: un 10 [])
def cu17ow_1_2_3_b : ACode := .seq (.region [oI 41 (.cmp .lss .i64 (.t 40) (.t 39))] []) (.seq (.cond (.t 41) (.region [] [41]) (.seq (.region [] [0, 38, 39, 40, 41]) (.exit 2))) (.seq (.block 3 (.seq (.region [oI 42 (.iaddr 1 (.t 38) (.t 40)), oI 43 (.load (.one .slice) (.t 42)), oI 8 (.mv (.t 43))] [42, 43]) (.seq (.region [oI 44 (.mv (.t 0)), oI 45 (.mv (.t 8)), oI 46 (.call (.f 110) [.t 44, .t 45] (.one (.one (.int .i64)))), oI 9 (.mv (.t 46))] [8, 44, 45, 46]) (.seq (.region [oI 47 (.mv (.t 9)), oI 48 (.cmp .neq .i64 (.t 47) (ci 0))] [47]) (.cond (.t 48) (.seq (.region [oI 49 (.mv (.t 9)), oI 4 (.mv (.t 49))] [0, 9, 38, 39, 40, 48, 49]) (.ret)) (.region [] [9, 48])))))) (.region [oI 50 (.bin .add .i64 (.t 40) (ci 1)), oI 40 (.mv (.t 50))] [50])))
def cu17ow_1_2_3 : ACode := .seq (.block 2 (.loop cu17ow_1_2_3_b)) cu17ow_1_2_3_4
def gcu17ow_1_2 (cn : ACode) : ACode := .seq (.region [oI 37 (.faddr 1 (.t 3)), oI 38 (.load (.one .slice) (.t 37)), oI 39 (.len (.t 38)), oI 40 (.mv (ci 0))] [3, 37]) cn
def cu17ow_1_2 : ACode := gcu17ow_1_2 cu17ow_1_2_3
abbrev u17owt3 (R : Type) := OA → Addr → AH → Option R
def u17ows3 (t0 : OA) (t3 : Addr) : List Value := vn t0 :: un 2 (vp t3 :: un 47 [])
abbrev u17owt4 (R : Type) := OA → Addr → Sl → Int → Int → AH → Option R
def u17ows4 (t0 : OA) (t3 : Addr) (t25 : Sl) (t26 t27 : Int) : List Value := vn t0 :: un 2 (vp t3 :: un 21 (t25.v :: vi t26 :: vi t27 :: un 23 []))
def cu17ow_1_b : ACode := .seq (.region [oI 28 (.cmp .lss .i64 (.t 27) (.t 26))] []) (.seq (.cond (.t 28) (.region [] [28]) (.seq (.region [] [25, 26, 27, 28]) (.exit 0))) (.seq (.block 1 (.seq (.region [oI 29 (.iaddr 1 (.t 25) (.t 27)), oI 30 (.load (.one .slice) (.t 29)), oI 6 (.mv (.t 30))] [29, 30]) (.seq (.region [oI 31 (.mv (.t 6)), oI 32 (.len (.t 31)), oI 33 (.faddr 0 (.t 3)), oI 34 (.load (.one (.int .i64)) (.t 33)), oI 35 (.cmp .neq .i64 (.t 32) (.t 34))] [6, 31, 32, 33, 34]) (.cond (.t 35) (.seq (.region [oI 4 (.mv (ci 3))] [0, 3, 25, 26, 27, 35]) (.ret)) (.region [] [35]))))) (.region [oI 36 (.bin .add .i64 (.t 27) (ci 1)), oI 27 (.mv (.t 36))] [36])))
def cu17ow_1 : ACode := .seq (.block 0 (.loop cu17ow_1_b)) cu17ow_1_2
def gcu17ow (cn : ACode) : ACode := .seq (.seq (.region [oI 3 (.box (.t 1)), oI 4 (.mv (ci 0))] [1, 4]) (.seq (.region [oI 10 (.faddr 0 (.t 3)), oI 11 (.load (.one (.int .i64)) (.t 10)), oI 12 (.cmp .lss .i64 (.t 11) (ci 0)), oI 13 (.mv (.t 12)), .grp 13 false [qI 14 (.faddr 0 (.t 3)), qI 15 (.load (.one (.int .i64)) (.t 14)), qI 16 (.cmp .gtr .i64 (.t 15) (ci 256))], oI 17 (.pick (.t 13) (.c (.bool true)) (.t 16)), oI 18 (.mv (.t 17)), .grp 18 false [qI 19 (.faddr 1 (.t 3)), qI 20 (.load (.one .slice) (.t 19)), qI 21 (.len (.t 20)), qI 22 (.cmp .gtr .i64 (.t 21) (ci 256))], oI 23 (.pick (.t 18) (.c (.bool true)) (.t 22))] [10, 11, 12, 13, 14, 15, 16, 17, 18, 19, 20, 21, 22]) (.seq (.cond (.t 23) (.seq (.region [oI 4 (.mv (ci 3))] [0, 3, 23]) (.ret)) (.region [] [23])) (.region [oI 24 (.faddr 1 (.t 3)), oI 25 (.load (.one .slice) (.t 24)), oI 26 (.len (.t 25)), oI 27 (.mv (ci 0))] [24])))) cn
def cu17ow : ACode := gcu17ow cu17ow_1
abbrev u17owt5 (R : Type) := OA → Int → Sl → AH → Option R
def u17ows5 (t0 : OA) (t1_0 : Int) (t1_1 : Sl) : List Value := vn t0 :: .agg ⟨[.int .i64 t1_0, .slice t1_1.a t1_1.l t1_1.c]⟩ :: un 49 []
def a_matrix_check : AFunc := ⟨51, cu17ow, [.tmp 4]⟩
theorem ok_matrix_check : okF Tryz.prog 141 a_matrix_check = true := by kernel_rfl
def u17ow_1_2_3_4 {R : Type} (C : Callee) (fl k : Nat) (kr : u17owt0 R) : u17owt1 R := fun h => kr 0 h
theorem u17ow_1_2_3_4_e {R} (C fl k) (K : KF R) : (cp0 u17ows1 (ce C fl k cu17ow_1_2_3_4 K)) = u17ow_1_2_3_4 C fl k (cp1 u17ows0 (K .ret)) := by kernel_rfl
def u17ow_1_2_3_b {R : Type} (C : Callee) (fl k : Nat) (kn : u17owt2 R) (e2 : u17owt1 R) (kr : u17owt0 R) : u17owt2 R := fun t0 t38 t39 t40 h => if decide (t40 < t39) = true then idx 1 t38 t40 fun p1 => ldS h p1.block p1.off fun s2 => callF C fl fn.matrix_entries [.pointer t0, .slice s2.a s2.l s2.c] h fun v3 h4 => asInt .i64 v3 fun n5 => if (n5 != 0) = true then kr n5 h4 else kn t0 t38 t39 (w64 (t40 + 1)) h4 else e2 h
theorem u17ow_1_2_3_b_e {R} (C fl k) (K : KF R) : (cp4 u17ows2 (ce C fl k cu17ow_1_2_3_b K)) = u17ow_1_2_3_b C fl k (cp4 u17ows2 (K .normal)) (cp0 u17ows1 (K (.exit 2))) (cp1 u17ows0 (K .ret)) := by kernel_rfl
def u17ow_1_2_3_l {R : Type} (C : Callee) (fl k : Nat) (kn : u17owt1 R) (kr : u17owt0 R) : Nat → u17owt2 R
  | 0 => fun _ _ _ _ _ => none
  | m + 1 => u17ow_1_2_3_b C fl k (u17ow_1_2_3_l C fl k kn kr m) kn kr
theorem u17ow_1_2_3_l_p {R} (C fl k) (K : KF R) : ∀ m, (cp4 u17ows2 (loopK m (kstep C fl k cu17ow_1_2_3_b 2 K))) = u17ow_1_2_3_l C fl k (cp0 u17ows1 (K .normal)) (cp1 u17ows0 (K .ret)) m
  | 0 => by kernel_rfl
  | m + 1 => (congr1 (fun g => (cp4 u17ows2 (g))) (loop_ce C fl k cu17ow_1_2_3_b 2 K m)).trans ((u17ow_1_2_3_b_e C fl k _).trans (congr1 (fun L => u17ow_1_2_3_b C fl k L (cp0 u17ows1 (K .normal)) (cp1 u17ows0 (K .ret))) (u17ow_1_2_3_l_p C fl k K m)))
theorem u17ow_1_2_3_l_e {R} (C fl k) (K : KF R) : (cp4 u17ows2 (ce C fl k (.block 2 (.loop cu17ow_1_2_3_b)) K)) = u17ow_1_2_3_l C fl k (cp0 u17ows1 (K .normal)) (cp1 u17ows0 (K .ret)) k := (congr1 (fun g => (cp4 u17ows2 (g))) (ce_loop C fl k cu17ow_1_2_3_b 2 K)).trans (u17ow_1_2_3_l_p C fl k K k)
def u17ow_1_2_3 {R : Type} (C : Callee) (fl k : Nat) (kr : u17owt0 R) : u17owt2 R := u17ow_1_2_3_l C fl k (u17ow_1_2_3_4 C fl k kr) kr k
theorem u17ow_1_2_3_e {R} (C fl k) (K : KF R) : (cp4 u17ows2 (ce C fl k cu17ow_1_2_3 K)) = u17ow_1_2_3 C fl k (cp1 u17ows0 (K .ret)) := ((congr1 (fun g => (cp4 u17ows2 (g))) (ce_seq C fl k _ _ K)).trans (u17ow_1_2_3_l_e C fl k (kseq C fl k cu17ow_1_2_3_4 K))).trans (congr1 (fun L => u17ow_1_2_3_l C fl k L (cp1 u17ows0 (K .ret)) k) ((congr1 (fun g => (cp0 u17ows1 (g))) (seq_n C fl k cu17ow_1_2_3_4 K)).trans (u17ow_1_2_3_4_e C fl k K)))
def u17ow_1_2F {R : Type} (C : Callee) (fl k : Nat) (kx : u17owt2 R)  (kr : u17owt0 R) : u17owt3 R := fun t0 t3 h => ldS h t3.block (t3.off + 1) fun s6 => kx t0 s6 ((s6.l : Nat) : Int) 0 h
def u17ow_1_2 {R : Type} (C : Callee) (fl k : Nat) (kr : u17owt0 R) : u17owt3 R := u17ow_1_2F C fl k (u17ow_1_2_3 C fl k kr)  kr
theorem u17ow_1_2_g {R} (C fl k) (cn : ACode) (K : KF R) : (cp2 u17ows3 (ce C fl k (gcu17ow_1_2 cn) K)) = u17ow_1_2F C fl k (cp4 u17ows2 (ce C fl k cn K)) (cp1 u17ows0 (K .ret)) := by kernel_rfl
theorem u17ow_1_2_e {R} (C fl k) (K : KF R) : (cp2 u17ows3 (ce C fl k cu17ow_1_2 K)) = u17ow_1_2 C fl k (cp1 u17ows0 (K .ret)) := (u17ow_1_2_g C fl k cu17ow_1_2_3 K).trans (congr1 (fun L0 => u17ow_1_2F C fl k L0 (cp1 u17ows0 (K .ret))) (u17ow_1_2_3_e C fl k K))
def u17ow_1_b {R : Type} (C : Callee) (fl k : Nat) (kn : u17owt4 R) (e0 : u17owt3 R) (kr : u17owt0 R) : u17owt4 R := fun t0 t3 t25 t26 t27 h => if decide (t27 < t26) = true then idx 1 t25 t27 fun p7 => ldS h p7.block p7.off fun s8 => ldI .i64 h t3.block t3.off fun n9 => if (((s8.l : Nat) : Int) != n9) = true then kr 3 h else kn t0 t3 t25 t26 (w64 (t27 + 1)) h else e0 t0 t3 h
theorem u17ow_1_b_e {R} (C fl k) (K : KF R) : (cp5 u17ows4 (ce C fl k cu17ow_1_b K)) = u17ow_1_b C fl k (cp5 u17ows4 (K .normal)) (cp2 u17ows3 (K (.exit 0))) (cp1 u17ows0 (K .ret)) := by kernel_rfl
def u17ow_1_l {R : Type} (C : Callee) (fl k : Nat) (kn : u17owt3 R) (kr : u17owt0 R) : Nat → u17owt4 R
  | 0 => fun _ _ _ _ _ _ => none
  | m + 1 => u17ow_1_b C fl k (u17ow_1_l C fl k kn kr m) kn kr
theorem u17ow_1_l_p {R} (C fl k) (K : KF R) : ∀ m, (cp5 u17ows4 (loopK m (kstep C fl k cu17ow_1_b 0 K))) = u17ow_1_l C fl k (cp2 u17ows3 (K .normal)) (cp1 u17ows0 (K .ret)) m
  | 0 => by kernel_rfl
  | m + 1 => (congr1 (fun g => (cp5 u17ows4 (g))) (loop_ce C fl k cu17ow_1_b 0 K m)).trans ((u17ow_1_b_e C fl k _).trans (congr1 (fun L => u17ow_1_b C fl k L (cp2 u17ows3 (K .normal)) (cp1 u17ows0 (K .ret))) (u17ow_1_l_p C fl k K m)))
theorem u17ow_1_l_e {R} (C fl k) (K : KF R) : (cp5 u17ows4 (ce C fl k (.block 0 (.loop cu17ow_1_b)) K)) = u17ow_1_l C fl k (cp2 u17ows3 (K .normal)) (cp1 u17ows0 (K .ret)) k := (congr1 (fun g => (cp5 u17ows4 (g))) (ce_loop C fl k cu17ow_1_b 0 K)).trans (u17ow_1_l_p C fl k K k)
def u17ow_1 {R : Type} (C : Callee) (fl k : Nat) (kr : u17owt0 R) : u17owt4 R := u17ow_1_l C fl k (u17ow_1_2 C fl k kr) kr k
theorem u17ow_1_e {R} (C fl k) (K : KF R) : (cp5 u17ows4 (ce C fl k cu17ow_1 K)) = u17ow_1 C fl k (cp1 u17ows0 (K .ret)) := ((congr1 (fun g => (cp5 u17ows4 (g))) (ce_seq C fl k _ _ K)).trans (u17ow_1_l_e C fl k (kseq C fl k cu17ow_1_2 K))).trans (congr1 (fun L => u17ow_1_l C fl k L (cp1 u17ows0 (K .ret)) k) ((congr1 (fun g => (cp2 u17ows3 (g))) (seq_n C fl k cu17ow_1_2 K)).trans (u17ow_1_2_e C fl k K)))
def u17owF {R : Type} (C : Callee) (fl k : Nat) (kx : u17owt4 R)  (kr : u17owt0 R) : u17owt5 R := fun t0 t1_0 t1_1 h => alc h [.int .i64 t1_0, .slice t1_1.a t1_1.l t1_1.c] fun b10 h11 => ldI .i64 h11 b10 0 fun n12 => if decide (n12 < 0) = false then ldI .i64 h11 b10 0 fun n13 => if decide (n13 > 256) = false then ldS h11 b10 1 fun s14 => if decide (((s14.l : Nat) : Int) > 256) = true then kr 3 h11 else ldS h11 b10 1 fun s15 => kx t0 ⟨b10, 0, none⟩ s15 ((s15.l : Nat) : Int) 0 h11 else kr 3 h11 else kr 3 h11
def u17ow {R : Type} (C : Callee) (fl k : Nat) (kr : u17owt0 R) : u17owt5 R := u17owF C fl k (u17ow_1 C fl k kr)  kr
theorem u17ow_g {R} (C fl k) (cn : ACode) (K : KF R) : (cp3 u17ows5 (ce C fl k (gcu17ow cn) K)) = u17owF C fl k (cp5 u17ows4 (ce C fl k cn K)) (cp1 u17ows0 (K .ret)) := by kernel_rfl
theorem u17ow_e {R} (C fl k) (K : KF R) : (cp3 u17ows5 (ce C fl k cu17ow K)) = u17ow C fl k (cp1 u17ows0 (K .ret)) := (u17ow_g C fl k cu17ow_1 K).trans (congr1 (fun L0 => u17owF C fl k L0 (cp1 u17ows0 (K .ret))) (u17ow_1_e C fl k K))
def matrix_check (C : Callee) (fl k : Nat) (p0 : OA) (p1_0 : Int) (p1_1 : Sl) (h : AH) : Option (Value × AH) := u17ow C fl k (fun y4 q => some (.int .i64 y4, q)) p0 p1_0 p1_1 h
theorem matrix_check_run (C fl k) (p0 : OA) (p1_0 : Int) (p1_1 : Sl) (h) : runF C fl k a_matrix_check [.pointer p0, .agg ⟨[.int .i64 p1_0, .slice p1_1.a p1_1.l p1_1.c]⟩] h = matrix_check C fl k p0 p1_0 p1_1 h :=
  (runF_ce C fl k a_matrix_check [.pointer p0, .agg ⟨[.int .i64 p1_0, .slice p1_1.a p1_1.l p1_1.c]⟩] h cu17ow (u17ows5 p0 p1_0 p1_1) rfl (by kernel_rfl)).trans ((cp3_ap u17ows5 (ce C fl k cu17ow (finalK a_matrix_check.results)) p0 p1_0 p1_1 h).symm.trans ((congrFun (congrFun (congrFun (congrFun (u17ow_e C fl k (finalK a_matrix_check.results)) p0) p1_0) p1_1) h).trans (show u17ow C fl k (cp1 u17ows0 ((finalK a_matrix_check.results) .ret)) p0 p1_0 p1_1 h = matrix_check C fl k p0 p1_0 p1_1 h by kernel_rfl)))
def d_matrix_check (C : Callee) (fl k : Nat) (args : List Value) (h : AH) : Option (Value × AH) := match args with
  | [.pointer n0, .agg ⟨[.int .i64 n2, .slice n3a n3l n3c]⟩] => matrix_check C fl k n0 n2 ⟨n3a, n3l, n3c⟩ h
  | _ => none
theorem d_matrix_check_run {C : Callee} {fl k : Nat} {args : List Value} {h : AH} {r : Value × AH} (e : d_matrix_check C fl k args h = some r) : runF C fl k a_matrix_check args h = some r := by
  unfold d_matrix_check at e
  split at e
  · rename_i n0 n2 n3a n3l n3c; exact (matrix_check_run C fl k n0 n2 ⟨n3a, n3l, n3c⟩ h).trans e
  · cases e
abbrev uu8l7t0 (R : Type) := Sl → AH → Option R
def uu8l7s0 (t2 : Sl) : List Value := un 2 (t2.v :: un 20 [])
def cuu8l7_1_2 : ACode := .seq (.region [oI 22 (.mv (.t 3)), oI 2 (.mv (.t 22))] [3, 22]) (.ret)
abbrev uu8l7t1 (R : Type) := Sl → AH → Option R
def uu8l7s1 (t3 : Sl) : List Value := un 3 (t3.v :: un 19 [])
abbrev uu8l7t2 (R : Type) := Sl → Sl → Int → Int → AH → Option R
def uu8l7s2 (t3 t9 : Sl) (t10 t11 : Int) : List Value := un 3 (t3.v :: un 5 (t9.v :: vi t10 :: vi t11 :: un 11 []))
def cuu8l7_1_b : ACode := .seq (.region [oI 12 (.cmp .lss .i64 (.t 11) (.t 10))] []) (.seq (.cond (.t 12) (.region [] [12]) (.seq (.region [] [9, 10, 11, 12]) (.exit 0))) (.seq (.block 1 (.seq (.region [oI 13 (.mv (.t 11)), oI 14 (.iaddr 1 (.t 9) (.t 11)), oI 15 (.load (.one .slice) (.t 14)), oI 4 (.mv (.t 13)), oI 5 (.mv (.t 15))] [13, 14, 15]) (.region [oI 16 (.mv (.t 3)), oI 17 (.mv (.t 4)), oI 18 (.mv (.t 5)), oI 19 (.call (.f 118) [.t 18] (.one (.one .slice))), oI 20 (.iaddr 1 (.t 16) (.t 17)), pI (.store 1 (.t 20) (.t 19))] [4, 5, 16, 17, 18, 19, 20]))) (.region [oI 21 (.bin .add .i64 (.t 11) (ci 1)), oI 11 (.mv (.t 21))] [21])))
def cuu8l7_1 : ACode := .seq (.block 0 (.loop cuu8l7_1_b)) cuu8l7_1_2
def gcuu8l7 (cn : ACode) : ACode := .seq (.seq (.region [oI 2 (.mv (.c (.slice none 0 0)))] [2]) (.seq (.region [oI 6 (.mv (.t 0)), oI 7 (.len (.t 6)), oI 8 (.mkslice 24 [.slice none 0 0] (.t 7) (.t 7)), oI 3 (.mv (.t 8))] [6, 7, 8]) (.region [oI 9 (.mv (.t 0)), oI 10 (.len (.t 9)), oI 11 (.mv (ci 0))] [0]))) cn
def cuu8l7 : ACode := gcuu8l7 cuu8l7_1
abbrev uu8l7t3 (R : Type) := Sl → AH → Option R
def uu8l7s3 (t0 : Sl) : List Value := t0.v :: un 22 []
def a_matrix_clone : AFunc := ⟨23, cuu8l7, [.tmp 2]⟩
theorem ok_matrix_clone : okF Tryz.prog 142 a_matrix_clone = true := by kernel_rfl
def uu8l7_1_2 {R : Type} (C : Callee) (fl k : Nat) (kr : uu8l7t0 R) : uu8l7t1 R := fun t3 h => kr t3 h
theorem uu8l7_1_2_e {R} (C fl k) (K : KF R) : (cp1 uu8l7s1 (ce C fl k cuu8l7_1_2 K)) = uu8l7_1_2 C fl k (cp1 uu8l7s0 (K .ret)) := by kernel_rfl
def uu8l7_1_b {R : Type} (C : Callee) (fl k : Nat) (kn : uu8l7t2 R) (e0 : uu8l7t1 R) : uu8l7t2 R := fun t3 t9 t10 t11 h => if decide (t11 < t10) = true then idx 1 t9 t11 fun p1 => ldS h p1.block p1.off fun s2 => callF C fl fn.slices_Clone [.slice s2.a s2.l s2.c] h fun v3 h4 => asSl v3 fun s5 => idx 1 t3 t11 fun p6 => st fl h4 p6 [.slice s5.a s5.l s5.c] fun h7 => kn t3 t9 t10 (w64 (t11 + 1)) h7 else e0 t3 h
theorem uu8l7_1_b_e {R} (C fl k) (K : KF R) : (cp4 uu8l7s2 (ce C fl k cuu8l7_1_b K)) = uu8l7_1_b C fl k (cp4 uu8l7s2 (K .normal)) (cp1 uu8l7s1 (K (.exit 0))) := by kernel_rfl
def uu8l7_1_l {R : Type} (C : Callee) (fl k : Nat) (kn : uu8l7t1 R) : Nat → uu8l7t2 R
  | 0 => fun _ _ _ _ _ => none
  | m + 1 => uu8l7_1_b C fl k (uu8l7_1_l C fl k kn m) kn
theorem uu8l7_1_l_p {R} (C fl k) (K : KF R) : ∀ m, (cp4 uu8l7s2 (loopK m (kstep C fl k cuu8l7_1_b 0 K))) = uu8l7_1_l C fl k (cp1 uu8l7s1 (K .normal)) m
  | 0 => by kernel_rfl
  | m + 1 => (congr1 (fun g => (cp4 uu8l7s2 (g))) (loop_ce C fl k cuu8l7_1_b 0 K m)).trans ((uu8l7_1_b_e C fl k _).trans (congr1 (fun L => uu8l7_1_b C fl k L (cp1 uu8l7s1 (K .normal))) (uu8l7_1_l_p C fl k K m)))
theorem uu8l7_1_l_e {R} (C fl k) (K : KF R) : (cp4 uu8l7s2 (ce C fl k (.block 0 (.loop cuu8l7_1_b)) K)) = uu8l7_1_l C fl k (cp1 uu8l7s1 (K .normal)) k := (congr1 (fun g => (cp4 uu8l7s2 (g))) (ce_loop C fl k cuu8l7_1_b 0 K)).trans (uu8l7_1_l_p C fl k K k)
def uu8l7_1 {R : Type} (C : Callee) (fl k : Nat) (kr : uu8l7t0 R) : uu8l7t2 R := uu8l7_1_l C fl k (uu8l7_1_2 C fl k kr) k
theorem uu8l7_1_e {R} (C fl k) (K : KF R) : (cp4 uu8l7s2 (ce C fl k cuu8l7_1 K)) = uu8l7_1 C fl k (cp1 uu8l7s0 (K .ret)) := ((congr1 (fun g => (cp4 uu8l7s2 (g))) (ce_seq C fl k _ _ K)).trans (uu8l7_1_l_e C fl k (kseq C fl k cuu8l7_1_2 K))).trans (congr1 (fun L => uu8l7_1_l C fl k L k) ((congr1 (fun g => (cp1 uu8l7s1 (g))) (seq_n C fl k cuu8l7_1_2 K)).trans (uu8l7_1_2_e C fl k K)))
def uu8l7F {R : Type} (C : Callee) (fl k : Nat) (kx : uu8l7t2 R)  (kr : uu8l7t0 R) : uu8l7t3 R := fun t0 h => mkSl 24 [.slice none 0 0] ((t0.l : Nat) : Int) ((t0.l : Nat) : Int) h fun s8 h9 => kx s8 t0 ((t0.l : Nat) : Int) 0 h9
def uu8l7 {R : Type} (C : Callee) (fl k : Nat) (kr : uu8l7t0 R) : uu8l7t3 R := uu8l7F C fl k (uu8l7_1 C fl k kr)  kr
theorem uu8l7_g {R} (C fl k) (cn : ACode) (K : KF R) : (cp1 uu8l7s3 (ce C fl k (gcuu8l7 cn) K)) = uu8l7F C fl k (cp4 uu8l7s2 (ce C fl k cn K)) (cp1 uu8l7s0 (K .ret)) := by kernel_rfl
theorem uu8l7_e {R} (C fl k) (K : KF R) : (cp1 uu8l7s3 (ce C fl k cuu8l7 K)) = uu8l7 C fl k (cp1 uu8l7s0 (K .ret)) := (uu8l7_g C fl k cuu8l7_1 K).trans (congr1 (fun L0 => uu8l7F C fl k L0 (cp1 uu8l7s0 (K .ret))) (uu8l7_1_e C fl k K))
def matrix_clone (C : Callee) (fl k : Nat) (p0 : Sl) (h : AH) : Option (Value × AH) := uu8l7 C fl k (fun y2 q => some (.slice y2.a y2.l y2.c, q)) p0 h
theorem matrix_clone_run (C fl k) (p0 : Sl) (h) : runF C fl k a_matrix_clone [.slice p0.a p0.l p0.c] h = matrix_clone C fl k p0 h :=
  (runF_ce C fl k a_matrix_clone [.slice p0.a p0.l p0.c] h cuu8l7 (uu8l7s3 p0) rfl (by kernel_rfl)).trans ((cp1_ap uu8l7s3 (ce C fl k cuu8l7 (finalK a_matrix_clone.results)) p0 h).symm.trans ((congrFun (congrFun (uu8l7_e C fl k (finalK a_matrix_clone.results)) p0) h).trans (show uu8l7 C fl k (cp1 uu8l7s0 ((finalK a_matrix_clone.results) .ret)) p0 h = matrix_clone C fl k p0 h by kernel_rfl)))
def d_matrix_clone (C : Callee) (fl k : Nat) (args : List Value) (h : AH) : Option (Value × AH) := match args with
  | [.slice n0a n0l n0c] => matrix_clone C fl k ⟨n0a, n0l, n0c⟩ h
  | _ => none
theorem d_matrix_clone_run {C : Callee} {fl k : Nat} {args : List Value} {h : AH} {r : Value × AH} (e : d_matrix_clone C fl k args h = some r) : runF C fl k a_matrix_clone args h = some r := by
  unfold d_matrix_clone at e
  split at e
  · rename_i n0a n0l n0c; exact (matrix_clone_run C fl k ⟨n0a, n0l, n0c⟩ h).trans e
  · cases e
abbrev utffst0 (R : Type) := Sl → Int → AH → Option R
def utffss0 (t8 : Sl) (t9 : Int) : List Value := un 8 (t8.v :: vi t9 :: un 115 [])
def cutffs_1_2 : ACode := .seq (.region [oI 123 (.mv (.t 12)), oI 124 (.mv (.t 10)), oI 8 (.mv (.t 123)), oI 9 (.mv (.t 124))] [10, 12, 123, 124]) (.ret)
abbrev utffst1 (R : Type) := Int → Sl → AH → Option R
def utffss1 (t10 : Int) (t12 : Sl) : List Value := un 10 (vi t10 :: un 1 (t12.v :: un 112 []))
abbrev utffst2 (R : Type) := Int → Addr → Addr → Int → Value → Sl → Int → AH → Option R
def utffss2 (t2 : Int) (t4 t5 : Addr) (t10 : Int) (t11 : Value) (t12 : Sl) (t13 : Int) : List Value := un 2 (vi t2 :: un 1 (vp t4 :: vp t5 :: un 4 (vi t10 :: t11 :: t12.v :: vi t13 :: un 111 [])))
def cutffs_1_b_3_4 : ACode := .region [oI 31 (.mv (.t 13)), oI 32 (.bin .add .i64 (.t 31) (ci 1)), oI 13 (.mv (.t 32))] [31, 32]
def cutffs_1_b_3_u_5_6_7_8_9_10 : ACode := .region [oI 119 (.mv (.t 12)), oI 120 (.mv (.t 13)), oI 121 (.bslice 1 [.int .i64 0] [(0, 1, .t 120)]), oI 122 (.append 1 8 (.t 119) (.t 121)), oI 12 (.mv (.t 122))] [119, 120, 121, 122]
abbrev utffst3 (R : Type) := Int → Addr → Addr → Int → Value → Sl → Int → Addr → Int → Int → AH → Option R
def utffss3 (t2 : Int) (t4 t5 : Addr) (t10 : Int) (t11 : Value) (t12 : Sl) (t13 : Int) (t14 : Addr) (t97 t98 : Int) : List Value := un 2 (vi t2 :: un 1 (vp t4 :: vp t5 :: un 4 (vi t10 :: t11 :: t12.v :: vi t13 :: vp t14 :: un 82 (vi t97 :: vi t98 :: un 26 []))))
def cutffs_1_b_3_u_5_6_7_8_9_b_11 : ACode := .region [oI 118 (.bin .add .i64 (.t 98) (ci 1)), oI 98 (.mv (.t 118))] [118]
def gcutffs_1_b_3_u_5_6_7_8_9_b (cn : ACode) : ACode := .seq (.seq (.region [oI 99 (.cmp .lss .i64 (.t 98) (.t 97))] []) (.seq (.cond (.t 99) (.region [] [99]) (.seq (.region [] [14, 97, 98, 99]) (.exit 4))) (.block 5 (.seq (.region [oI 100 (.mv (.t 98)), oI 18 (.alloc [.int .i64 0]), pI (.store 1 (.t 18) (.t 100))] [100]) (.seq (.region [oI 101 (.load (.one .slice) (.t 5)), oI 102 (.load (.one (.int .i64)) (.t 18)), oI 103 (.iaddr 1 (.t 101) (.t 102)), oI 104 (.load (.one .slice) (.t 103)), oI 105 (.mv (.t 13)), oI 106 (.iaddr 1 (.t 104) (.t 105)), oI 107 (.load (.one (.int .i64)) (.t 106)), oI 19 (.alloc [.int .i64 0]), pI (.store 1 (.t 19) (.t 107))] [101, 102, 103, 104, 105, 106, 107]) (.seq (.region [oI 108 (.load (.one (.int .i64)) (.t 18)), oI 109 (.load (.one (.int .i64)) (.t 14)), oI 110 (.cmp .neq .i64 (.t 108) (.t 109)), oI 111 (.mv (.t 110)), .grp 111 true [qI 112 (.load (.one (.int .i64)) (.t 19)), qI 113 (.cmp .neq .i64 (.t 112) (ci 0))], oI 114 (.pick (.t 111) (.t 113) (.c (.bool false)))] [108, 109, 110, 111, 112, 113]) (.cond (.t 114) (.region [oI 115 (.mv (.t 11)), oI 116 (.mkfn 169 [] [.t 4, .t 18, .t 19, .t 14]), oI 117 (.call (.t 115) [.t 116] (.tup []))] [18, 19, 114, 115, 116, 117]) (.region [] [18, 19, 114])))))))) cn
def cutffs_1_b_3_u_5_6_7_8_9_b : ACode := gcutffs_1_b_3_u_5_6_7_8_9_b cutffs_1_b_3_u_5_6_7_8_9_b_11
def cutffs_1_b_3_u_5_6_7_8_9 : ACode := .seq (.block 4 (.loop cutffs_1_b_3_u_5_6_7_8_9_b)) cutffs_1_b_3_u_5_6_7_8_9_10
def gcutffs_1_b_3_u_5_6_7_8 (cn : ACode) : ACode := .seq (.region [oI 96 (.load (.one .slice) (.t 5)), oI 97 (.len (.t 96)), oI 98 (.mv (ci 0))] [96]) cn
def cutffs_1_b_3_u_5_6_7_8 : ACode := gcutffs_1_b_3_u_5_6_7_8 cutffs_1_b_3_u_5_6_7_8_9
abbrev utffst4 (R : Type) := Int → Addr → Addr → Int → Value → Sl → Int → Addr → AH → Option R
def utffss4 (t2 : Int) (t4 t5 : Addr) (t10 : Int) (t11 : Value) (t12 : Sl) (t13 : Int) (t14 : Addr) : List Value := un 2 (vi t2 :: un 1 (vp t4 :: vp t5 :: un 4 (vi t10 :: t11 :: t12.v :: vi t13 :: vp t14 :: un 110 [])))
def gcutffs_1_b_3_u_5_6_7 (cn : ACode) : ACode := .seq (.seq (.region [oJ 65 (.load (.one .nptr) (.t 4)), oI 66 (.mv (.t 10)), oJ 67 (.load (.one .slice) (.t 5)), oJ 68 (.load (.one (.int .i64)) (.t 14)), oI 69 (.iaddr 1 (.t 67) (.t 68)), oJ 70 (.load (.one .slice) (.t 69)), oI 71 (.mv (.t 13)), oI 72 (.iaddr 1 (.t 70) (.t 71)), oJ 73 (.load (.one (.int .i64)) (.t 72)), oI 74 (.call (.f 120) [.t 65, .t 66, .t 73] (.one (.one (.int .i64)))), oI 10 (.mv (.t 74))] [65, 66, 67, 68, 69, 70, 71, 72, 73, 74]) (.seq (.region [oJ 76 (.load (.one .nptr) (.t 4)), oJ 77 (.load (.one .slice) (.t 5)), oJ 78 (.load (.one (.int .i64)) (.t 14)), oI 79 (.iaddr 1 (.t 77) (.t 78)), oJ 80 (.load (.one .slice) (.t 79)), oI 81 (.mv (.t 13)), oI 82 (.iaddr 1 (.t 80) (.t 81)), oJ 83 (.load (.one (.int .i64)) (.t 82)), oJ 84 (.call (.f 139) [.t 76, .t 83] (.tup [.one (.int .i64), .one (.int .i64)])), oI 75 (.mv (.t 84)), oI 85 (.extr (.t 75) 0), oI 86 (.extr (.t 75) 1), oJ 16 (.alloc [.int .i64 0]), pI (.store 1 (.t 16) (.t 85)), oI 17 (.mv (.t 86))] [75, 76, 77, 78, 79, 80, 81, 82, 83, 84, 85, 86]) (.seq (.region [oI 87 (.mv (.t 17)), oI 88 (.cmp .eql .i64 (.t 87) (ci 0)), oI 89 (.mv (.t 88)), .grp 89 true [qI 90 (.load (.one (.int .i64)) (.t 16)), qI 91 (.cmp .neq .i64 (.t 90) (ci 1))], oI 92 (.pick (.t 89) (.t 91) (.c (.bool false)))] [17, 87, 88, 89, 90, 91]) (.cond (.t 92) (.region [oI 93 (.mv (.t 11)), oI 94 (.mkfn 168 [] [.t 4, .t 16, .t 14]), oI 95 (.call (.t 93) [.t 94] (.tup []))] [16, 92, 93, 94, 95]) (.region [] [16, 92]))))) cn
def cutffs_1_b_3_u_5_6_7 : ACode := gcutffs_1_b_3_u_5_6_7 cutffs_1_b_3_u_5_6_7_8
def gcutffs_1_b_3_u_5_6 (cn : ACode) : ACode := .seq (.seq (.region [oI 52 (.load (.one (.int .i64)) (.t 15)), oI 53 (.load (.one .slice) (.t 5)), oI 54 (.len (.t 53)), oI 55 (.cmp .eql .i64 (.t 52) (.t 54))] [52, 53, 54]) (.seq (.cond (.t 55) (.seq (.region [] [14, 15, 55]) (.exit 1)) (.region [] [55])) (.seq (.region [oI 56 (.load (.one (.int .i64)) (.t 15)), oI 57 (.load (.one (.int .i64)) (.t 14)), oI 58 (.cmp .neq .i64 (.t 56) (.t 57))] [56, 57]) (.cond (.t 58) (.seq (.region [oI 59 (.mv (.t 11)), oI 60 (.mkfn 167 [] [.t 15, .t 14]), oI 61 (.call (.t 59) [.t 60] (.tup []))] [15, 58, 59, 60, 61]) (.region [oI 62 (.load (.one .nptr) (.t 4)), oI 63 (.mv (.t 10)), oI 64 (.call (.f 104) [.t 62, .t 63] (.one (.one (.int .i64)))), oI 10 (.mv (.t 64))] [62, 63, 64])) (.region [] [15, 58]))))) cn
def cutffs_1_b_3_u_5_6 : ACode := gcutffs_1_b_3_u_5_6 cutffs_1_b_3_u_5_6_7
abbrev utffst5 (R : Type) := Int → Addr → Addr → Int → Value → Sl → Int → Addr → Addr → AH → Option R
def utffss5 (t2 : Int) (t4 t5 : Addr) (t10 : Int) (t11 : Value) (t12 : Sl) (t13 : Int) (t14 t15 : Addr) : List Value := un 2 (vi t2 :: un 1 (vp t4 :: vp t5 :: un 4 (vi t10 :: t11 :: t12.v :: vi t13 :: vp t14 :: vp t15 :: un 109 [])))
def cutffs_1_b_3_u_5_b : ACode := .seq (.region [oI 36 (.load (.one (.int .i64)) (.t 15)), oI 37 (.load (.one .slice) (.t 5)), oI 38 (.len (.t 37)), oI 39 (.cmp .lss .i64 (.t 36) (.t 38)), oI 40 (.mv (.t 39)), .grp 40 true [qI 41 (.load (.one .slice) (.t 5)), qI 42 (.load (.one (.int .i64)) (.t 15)), qI 43 (.iaddr 1 (.t 41) (.t 42)), qI 44 (.load (.one .slice) (.t 43)), qI 45 (.mv (.t 13)), qI 46 (.iaddr 1 (.t 44) (.t 45)), qI 47 (.load (.one (.int .i64)) (.t 46)), qI 48 (.cmp .eql .i64 (.t 47) (ci 0))], oI 49 (.pick (.t 40) (.t 48) (.c (.bool false)))] [36, 37, 38, 39, 40, 41, 42, 43, 44, 45, 46, 47, 48]) (.seq (.cond (.t 49) (.region [] [49]) (.seq (.region [] [49]) (.exit 2))) (.block 3 (.region [oI 50 (.load (.one (.int .i64)) (.t 15)), oI 51 (.bin .add .i64 (.t 50) (ci 1)), pI (.store 1 (.t 15) (.t 51))] [50, 51])))
def cutffs_1_b_3_u_5 : ACode := .seq (.block 2 (.loop cutffs_1_b_3_u_5_b)) cutffs_1_b_3_u_5_6
def gcutffs_1_b_3_u (cn : ACode) : ACode := .seq (.seq (.region [oI 33 (.mv (.t 12)), oI 34 (.len (.t 33)), oI 14 (.alloc [.int .i64 0]), pI (.store 1 (.t 14) (.t 34))] [33, 34]) (.region [oI 35 (.load (.one (.int .i64)) (.t 14)), oI 15 (.alloc [.int .i64 0]), pI (.store 1 (.t 15) (.t 35))] [35])) cn
def cutffs_1_b_3_u : ACode := gcutffs_1_b_3_u cutffs_1_b_3_u_5
def gcutffs_1_b_3 (cn cu0 : ACode) : ACode := .seq (.block 1 cu0) cn
def cutffs_1_b_3 : ACode := gcutffs_1_b_3 cutffs_1_b_3_4 cutffs_1_b_3_u
def gcutffs_1_b (cn : ACode) : ACode := .seq (.seq (.region [oI 21 (.mv (.t 13)), oI 22 (.mv (.t 2)), oI 23 (.cmp .lss .i64 (.t 21) (.t 22)), oI 24 (.mv (.t 23)), .grp 24 true [qI 25 (.mv (.t 12)), qI 26 (.len (.t 25)), qI 27 (.load (.one .slice) (.t 5)), qI 28 (.len (.t 27)), qI 29 (.cmp .lss .i64 (.t 26) (.t 28))], oI 30 (.pick (.t 24) (.t 29) (.c (.bool false)))] [21, 22, 23, 24, 25, 26, 27, 28, 29]) (.cond (.t 30) (.region [] [30]) (.seq (.region [] [2, 4, 5, 11, 13, 30]) (.exit 0)))) cn
def cutffs_1_b : ACode := gcutffs_1_b cutffs_1_b_3
def cutffs_1 : ACode := .seq (.block 0 (.loop cutffs_1_b)) cutffs_1_2
def gcutffs (cn : ACode) : ACode := .seq (.seq (.region [oI 4 (.box (.t 0)), oI 5 (.box (.t 1)), oI 7 (.box (.t 3)), oI 8 (.mv (.c (.slice none 0 0))), oI 9 (.mv (ci 0))] [0, 1, 3, 8, 9]) (.seq (.region [oI 10 (.mv (ci 1))] []) (.seq (.region [oI 20 (.mkfn 166 [] [.t 5, .t 7]), oI 11 (.mv (.t 20))] [7, 20]) (.seq (.region [oI 12 (.mv (.c (.slice none 0 0)))] []) (.region [oI 13 (.mv (ci 0))] []))))) cn
def cutffs : ACode := gcutffs cutffs_1
abbrev utffst6 (R : Type) := OA → Sl → Int → Sl → AH → Option R
def utffss6 (t0 : OA) (t1 : Sl) (t2 : Int) (t3 : Sl) : List Value := vn t0 :: t1.v :: vi t2 :: t3.v :: un 121 []
def a_matrix_eliminate : AFunc := ⟨125, cutffs, [.tmp 8, .tmp 9]⟩
theorem ok_matrix_eliminate : okF Tryz.prog 143 a_matrix_eliminate = true := by kernel_rfl
def utffs_1_2 {R : Type} (C : Callee) (fl k : Nat) (kr : utffst0 R) : utffst1 R := fun t10 t12 h => kr t12 t10 h
theorem utffs_1_2_e {R} (C fl k) (K : KF R) : (cp2 utffss1 (ce C fl k cutffs_1_2 K)) = utffs_1_2 C fl k (cp2 utffss0 (K .ret)) := by kernel_rfl
def utffs_1_b_3_4 {R : Type} (C : Callee) (fl k : Nat) (kn : utffst2 R) (e0 : utffst1 R) : utffst2 R := fun t2 t4 t5 t10 t11 t12 t13 h => kn t2 t4 t5 t10 t11 t12 (w64 (t13 + 1)) h
theorem utffs_1_b_3_4_e {R} (C fl k) (K : KF R) : (cp7 utffss2 (ce C fl k cutffs_1_b_3_4 K)) = utffs_1_b_3_4 C fl k (cp7 utffss2 (K .normal)) (cp2 utffss1 (K (.exit 0))) := by kernel_rfl
def utffs_1_b_3_u_5_6_7_8_9_10 {R : Type} (C : Callee) (fl k : Nat) (kn : utffst2 R) (e1 : utffst2 R) : utffst2 R := fun t2 t4 t5 t10 t11 t12 t13 h => alc h [.int .i64 t13] fun b1 h2 => apnd fl 1 8 t12 ⟨(some ⟨b1, 0, none⟩), 1, 1⟩ h2 fun s3 h4 => kn t2 t4 t5 t10 t11 s3 t13 h4
theorem utffs_1_b_3_u_5_6_7_8_9_10_e {R} (C fl k) (K : KF R) : (cp7 utffss2 (ce C fl k cutffs_1_b_3_u_5_6_7_8_9_10 K)) = utffs_1_b_3_u_5_6_7_8_9_10 C fl k (cp7 utffss2 (K .normal)) (cp7 utffss2 (K (.exit 1))) := by kernel_rfl
def utffs_1_b_3_u_5_6_7_8_9_b_11 {R : Type} (C : Callee) (fl k : Nat) (kn : utffst3 R) (e4 : utffst2 R) : utffst3 R := fun t2 t4 t5 t10 t11 t12 t13 t14 t97 t98 h => kn t2 t4 t5 t10 t11 t12 t13 t14 t97 (w64 (t98 + 1)) h
theorem utffs_1_b_3_u_5_6_7_8_9_b_11_e {R} (C fl k) (K : KF R) : (cp10 utffss3 (ce C fl k cutffs_1_b_3_u_5_6_7_8_9_b_11 K)) = utffs_1_b_3_u_5_6_7_8_9_b_11 C fl k (cp10 utffss3 (K .normal)) (cp7 utffss2 (K (.exit 4))) := by kernel_rfl
def utffs_1_b_3_u_5_6_7_8_9_bF {R : Type} (C : Callee) (fl k : Nat) (kx : utffst3 R)  (kn : utffst3 R) (e4 : utffst2 R) : utffst3 R := fun t2 t4 t5 t10 t11 t12 t13 t14 t97 t98 h => if decide (t98 < t97) = true then alc h [.int .i64 0] fun b5 h6 => st fl h6 ⟨b5, 0, none⟩ [.int .i64 t98] fun h7 => ldS h7 t5.block t5.off fun s8 => ldI .i64 h7 b5 0 fun n9 => idx 1 s8 n9 fun p10 => ldS h7 p10.block p10.off fun s11 => idx 1 s11 t13 fun p12 => ldI .i64 h7 p12.block p12.off fun n13 => alc h7 [.int .i64 0] fun b14 h15 => st fl h15 ⟨b14, 0, none⟩ [.int .i64 n13] fun h16 => ldI .i64 h16 b5 0 fun n17 => ldI .i64 h16 t14.block t14.off fun n18 => if (n17 != n18) = true then ldI .i64 h16 b14 0 fun n19 => if (n19 != 0) = true then callV C fl t11 [.func (.func fn.matrix_eliminate_4) ⟨[]⟩ ⟨[.pointer (some t4), .pointer (some ⟨b5, 0, none⟩), .pointer (some ⟨b14, 0, none⟩), .pointer (some t14)]⟩] h16 fun v20 h21 => asTup v20 fun l22 => unil l22 (kx t2 t4 t5 t10 t11 t12 t13 t14 t97 t98 h21) else kx t2 t4 t5 t10 t11 t12 t13 t14 t97 t98 h16 else kx t2 t4 t5 t10 t11 t12 t13 t14 t97 t98 h16 else e4 t2 t4 t5 t10 t11 t12 t13 h
def utffs_1_b_3_u_5_6_7_8_9_b {R : Type} (C : Callee) (fl k : Nat) (kn : utffst3 R) (e4 : utffst2 R) : utffst3 R := utffs_1_b_3_u_5_6_7_8_9_bF C fl k (utffs_1_b_3_u_5_6_7_8_9_b_11 C fl k kn e4)  kn e4
theorem utffs_1_b_3_u_5_6_7_8_9_b_g {R} (C fl k) (cn : ACode) (K : KF R) : (cp10 utffss3 (ce C fl k (gcutffs_1_b_3_u_5_6_7_8_9_b cn) K)) = utffs_1_b_3_u_5_6_7_8_9_bF C fl k (cp10 utffss3 (ce C fl k cn K)) (cp10 utffss3 (K .normal)) (cp7 utffss2 (K (.exit 4))) := by kernel_rfl
theorem utffs_1_b_3_u_5_6_7_8_9_b_e {R} (C fl k) (K : KF R) : (cp10 utffss3 (ce C fl k cutffs_1_b_3_u_5_6_7_8_9_b K)) = utffs_1_b_3_u_5_6_7_8_9_b C fl k (cp10 utffss3 (K .normal)) (cp7 utffss2 (K (.exit 4))) := (utffs_1_b_3_u_5_6_7_8_9_b_g C fl k cutffs_1_b_3_u_5_6_7_8_9_b_11 K).trans (congr1 (fun L0 => utffs_1_b_3_u_5_6_7_8_9_bF C fl k L0 (cp10 utffss3 (K .normal)) (cp7 utffss2 (K (.exit 4)))) (utffs_1_b_3_u_5_6_7_8_9_b_11_e C fl k K))
def utffs_1_b_3_u_5_6_7_8_9_l {R : Type} (C : Callee) (fl k : Nat) (kn : utffst2 R) : Nat → utffst3 R
  | 0 => fun _ _ _ _ _ _ _ _ _ _ _ => none
  | m + 1 => utffs_1_b_3_u_5_6_7_8_9_b C fl k (utffs_1_b_3_u_5_6_7_8_9_l C fl k kn m) kn
theorem utffs_1_b_3_u_5_6_7_8_9_l_p {R} (C fl k) (K : KF R) : ∀ m, (cp10 utffss3 (loopK m (kstep C fl k cutffs_1_b_3_u_5_6_7_8_9_b 4 K))) = utffs_1_b_3_u_5_6_7_8_9_l C fl k (cp7 utffss2 (K .normal)) m
  | 0 => by kernel_rfl
  | m + 1 => (congr1 (fun g => (cp10 utffss3 (g))) (loop_ce C fl k cutffs_1_b_3_u_5_6_7_8_9_b 4 K m)).trans ((utffs_1_b_3_u_5_6_7_8_9_b_e C fl k _).trans (congr1 (fun L => utffs_1_b_3_u_5_6_7_8_9_b C fl k L (cp7 utffss2 (K .normal))) (utffs_1_b_3_u_5_6_7_8_9_l_p C fl k K m)))
theorem utffs_1_b_3_u_5_6_7_8_9_l_e {R} (C fl k) (K : KF R) : (cp10 utffss3 (ce C fl k (.block 4 (.loop cutffs_1_b_3_u_5_6_7_8_9_b)) K)) = utffs_1_b_3_u_5_6_7_8_9_l C fl k (cp7 utffss2 (K .normal)) k := (congr1 (fun g => (cp10 utffss3 (g))) (ce_loop C fl k cutffs_1_b_3_u_5_6_7_8_9_b 4 K)).trans (utffs_1_b_3_u_5_6_7_8_9_l_p C fl k K k)
def utffs_1_b_3_u_5_6_7_8_9 {R : Type} (C : Callee) (fl k : Nat) (kn : utffst2 R) (e1 : utffst2 R) : utffst3 R := utffs_1_b_3_u_5_6_7_8_9_l C fl k (utffs_1_b_3_u_5_6_7_8_9_10 C fl k kn e1) k
theorem utffs_1_b_3_u_5_6_7_8_9_e {R} (C fl k) (K : KF R) : (cp10 utffss3 (ce C fl k cutffs_1_b_3_u_5_6_7_8_9 K)) = utffs_1_b_3_u_5_6_7_8_9 C fl k (cp7 utffss2 (K .normal)) (cp7 utffss2 (K (.exit 1))) := ((congr1 (fun g => (cp10 utffss3 (g))) (ce_seq C fl k _ _ K)).trans (utffs_1_b_3_u_5_6_7_8_9_l_e C fl k (kseq C fl k cutffs_1_b_3_u_5_6_7_8_9_10 K))).trans (congr1 (fun L => utffs_1_b_3_u_5_6_7_8_9_l C fl k L k) ((congr1 (fun g => (cp7 utffss2 (g))) (seq_n C fl k cutffs_1_b_3_u_5_6_7_8_9_10 K)).trans (utffs_1_b_3_u_5_6_7_8_9_10_e C fl k K)))
def utffs_1_b_3_u_5_6_7_8F {R : Type} (C : Callee) (fl k : Nat) (kx : utffst3 R)  (kn : utffst2 R) (e1 : utffst2 R) : utffst4 R := fun t2 t4 t5 t10 t11 t12 t13 t14 h => ldS h t5.block t5.off fun s23 => kx t2 t4 t5 t10 t11 t12 t13 t14 ((s23.l : Nat) : Int) 0 h
def utffs_1_b_3_u_5_6_7_8 {R : Type} (C : Callee) (fl k : Nat) (kn : utffst2 R) (e1 : utffst2 R) : utffst4 R := utffs_1_b_3_u_5_6_7_8F C fl k (utffs_1_b_3_u_5_6_7_8_9 C fl k kn e1)  kn e1
theorem utffs_1_b_3_u_5_6_7_8_g {R} (C fl k) (cn : ACode) (K : KF R) : (cp8 utffss4 (ce C fl k (gcutffs_1_b_3_u_5_6_7_8 cn) K)) = utffs_1_b_3_u_5_6_7_8F C fl k (cp10 utffss3 (ce C fl k cn K)) (cp7 utffss2 (K .normal)) (cp7 utffss2 (K (.exit 1))) := by kernel_rfl
theorem utffs_1_b_3_u_5_6_7_8_e {R} (C fl k) (K : KF R) : (cp8 utffss4 (ce C fl k cutffs_1_b_3_u_5_6_7_8 K)) = utffs_1_b_3_u_5_6_7_8 C fl k (cp7 utffss2 (K .normal)) (cp7 utffss2 (K (.exit 1))) := (utffs_1_b_3_u_5_6_7_8_g C fl k cutffs_1_b_3_u_5_6_7_8_9 K).trans (congr1 (fun L0 => utffs_1_b_3_u_5_6_7_8F C fl k L0 (cp7 utffss2 (K .normal)) (cp7 utffss2 (K (.exit 1)))) (utffs_1_b_3_u_5_6_7_8_9_e C fl k K))
def utffs_1_b_3_u_5_6_7F {R : Type} (C : Callee) (fl k : Nat) (kx : utffst4 R)  (kn : utffst2 R) (e1 : utffst2 R) : utffst4 R := fun t2 t4 t5 t10 t11 t12 t13 t14 h => ldN h t4.block t4.off fun p24 => ldS h t5.block t5.off fun s25 => ldI .i64 h t14.block t14.off fun n26 => idx 1 s25 n26 fun p27 => ldS h p27.block p27.off fun s28 => idx 1 s28 t13 fun p29 => ldI .i64 h p29.block p29.off fun n30 => callF C fl fn.field_GF_Mul [.pointer p24, .int .i64 t10, .int .i64 n30] h fun v31 h32 => asInt .i64 v31 fun n33 => ldN h32 t4.block t4.off fun p34 => ldS h32 t5.block t5.off fun s35 => ldI .i64 h32 t14.block t14.off fun n36 => idx 1 s35 n36 fun p37 => ldS h32 p37.block p37.off fun s38 => idx 1 s38 t13 fun p39 => ldI .i64 h32 p39.block p39.off fun n40 => callF C h32.next fn.field_GF_Inv [.pointer p34, .int .i64 n40] h32 fun v41 h42 => asTup v41 fun l43 => ucons l43 fun v44 l45 => asInt .i64 v44 fun n46 => ucons l45 fun v47 l48 => asInt .i64 v47 fun n49 => unil l48 (alc h42 [.int .i64 0] fun b50 h51 => st fl h51 ⟨b50, 0, none⟩ [.int .i64 n46] fun h52 => if (n49 == 0) = true then ldI .i64 h52 b50 0 fun n53 => if (n53 != 1) = true then callV C fl t11 [.func (.func fn.matrix_eliminate_3) ⟨[]⟩ ⟨[.pointer (some t4), .pointer (some ⟨b50, 0, none⟩), .pointer (some t14)]⟩] h52 fun v54 h55 => asTup v54 fun l56 => unil l56 (kx t2 t4 t5 n33 t11 t12 t13 t14 h55) else kx t2 t4 t5 n33 t11 t12 t13 t14 h52 else kx t2 t4 t5 n33 t11 t12 t13 t14 h52)
def utffs_1_b_3_u_5_6_7 {R : Type} (C : Callee) (fl k : Nat) (kn : utffst2 R) (e1 : utffst2 R) : utffst4 R := utffs_1_b_3_u_5_6_7F C fl k (utffs_1_b_3_u_5_6_7_8 C fl k kn e1)  kn e1
theorem utffs_1_b_3_u_5_6_7_g {R} (C fl k) (cn : ACode) (K : KF R) : (cp8 utffss4 (ce C fl k (gcutffs_1_b_3_u_5_6_7 cn) K)) = utffs_1_b_3_u_5_6_7F C fl k (cp8 utffss4 (ce C fl k cn K)) (cp7 utffss2 (K .normal)) (cp7 utffss2 (K (.exit 1))) := by kernel_rfl
theorem utffs_1_b_3_u_5_6_7_e {R} (C fl k) (K : KF R) : (cp8 utffss4 (ce C fl k cutffs_1_b_3_u_5_6_7 K)) = utffs_1_b_3_u_5_6_7 C fl k (cp7 utffss2 (K .normal)) (cp7 utffss2 (K (.exit 1))) := (utffs_1_b_3_u_5_6_7_g C fl k cutffs_1_b_3_u_5_6_7_8 K).trans (congr1 (fun L0 => utffs_1_b_3_u_5_6_7F C fl k L0 (cp7 utffss2 (K .normal)) (cp7 utffss2 (K (.exit 1)))) (utffs_1_b_3_u_5_6_7_8_e C fl k K))
def utffs_1_b_3_u_5_6F {R : Type} (C : Callee) (fl k : Nat) (kx : utffst4 R)  (kn : utffst2 R) (e1 : utffst2 R) : utffst5 R := fun t2 t4 t5 t10 t11 t12 t13 t14 t15 h => ldI .i64 h t15.block t15.off fun n57 => ldS h t5.block t5.off fun s58 => if (n57 == ((s58.l : Nat) : Int)) = true then e1 t2 t4 t5 t10 t11 t12 t13 h else ldI .i64 h t15.block t15.off fun n59 => ldI .i64 h t14.block t14.off fun n60 => if (n59 != n60) = true then callV C fl t11 [.func (.func fn.matrix_eliminate_2) ⟨[]⟩ ⟨[.pointer (some t15), .pointer (some t14)]⟩] h fun v61 h62 => asTup v61 fun l63 => unil l63 (ldN h62 t4.block t4.off fun p64 => callF C fl fn.field_GF_Neg [.pointer p64, .int .i64 t10] h62 fun v65 h66 => asInt .i64 v65 fun n67 => kx t2 t4 t5 n67 t11 t12 t13 t14 h66) else kx t2 t4 t5 t10 t11 t12 t13 t14 h
def utffs_1_b_3_u_5_6 {R : Type} (C : Callee) (fl k : Nat) (kn : utffst2 R) (e1 : utffst2 R) : utffst5 R := utffs_1_b_3_u_5_6F C fl k (utffs_1_b_3_u_5_6_7 C fl k kn e1)  kn e1
theorem utffs_1_b_3_u_5_6_g {R} (C fl k) (cn : ACode) (K : KF R) : (cp9 utffss5 (ce C fl k (gcutffs_1_b_3_u_5_6 cn) K)) = utffs_1_b_3_u_5_6F C fl k (cp8 utffss4 (ce C fl k cn K)) (cp7 utffss2 (K .normal)) (cp7 utffss2 (K (.exit 1))) := by kernel_rfl
theorem utffs_1_b_3_u_5_6_e {R} (C fl k) (K : KF R) : (cp9 utffss5 (ce C fl k cutffs_1_b_3_u_5_6 K)) = utffs_1_b_3_u_5_6 C fl k (cp7 utffss2 (K .normal)) (cp7 utffss2 (K (.exit 1))) := (utffs_1_b_3_u_5_6_g C fl k cutffs_1_b_3_u_5_6_7 K).trans (congr1 (fun L0 => utffs_1_b_3_u_5_6F C fl k L0 (cp7 utffss2 (K .normal)) (cp7 utffss2 (K (.exit 1)))) (utffs_1_b_3_u_5_6_7_e C fl k K))
def utffs_1_b_3_u_5_b {R : Type} (C : Callee) (fl k : Nat) (kn : utffst5 R) (e2 : utffst5 R) : utffst5 R := fun t2 t4 t5 t10 t11 t12 t13 t14 t15 h => ldI .i64 h t15.block t15.off fun n68 => ldS h t5.block t5.off fun s69 => if decide (n68 < ((s69.l : Nat) : Int)) = true then ldS h t5.block t5.off fun s70 => ldI .i64 h t15.block t15.off fun n71 => idx 1 s70 n71 fun p72 => ldS h p72.block p72.off fun s73 => idx 1 s73 t13 fun p74 => ldI .i64 h p74.block p74.off fun n75 => if (n75 == 0) = true then ldI .i64 h t15.block t15.off fun n76 => st fl h t15 [.int .i64 (w64 (n76 + 1))] fun h77 => kn t2 t4 t5 t10 t11 t12 t13 t14 t15 h77 else e2 t2 t4 t5 t10 t11 t12 t13 t14 t15 h else e2 t2 t4 t5 t10 t11 t12 t13 t14 t15 h
theorem utffs_1_b_3_u_5_b_e {R} (C fl k) (K : KF R) : (cp9 utffss5 (ce C fl k cutffs_1_b_3_u_5_b K)) = utffs_1_b_3_u_5_b C fl k (cp9 utffss5 (K .normal)) (cp9 utffss5 (K (.exit 2))) := by kernel_rfl
def utffs_1_b_3_u_5_l {R : Type} (C : Callee) (fl k : Nat) (kn : utffst5 R) : Nat → utffst5 R
  | 0 => fun _ _ _ _ _ _ _ _ _ _ => none
  | m + 1 => utffs_1_b_3_u_5_b C fl k (utffs_1_b_3_u_5_l C fl k kn m) kn
theorem utffs_1_b_3_u_5_l_p {R} (C fl k) (K : KF R) : ∀ m, (cp9 utffss5 (loopK m (kstep C fl k cutffs_1_b_3_u_5_b 2 K))) = utffs_1_b_3_u_5_l C fl k (cp9 utffss5 (K .normal)) m
  | 0 => by kernel_rfl
  | m + 1 => (congr1 (fun g => (cp9 utffss5 (g))) (loop_ce C fl k cutffs_1_b_3_u_5_b 2 K m)).trans ((utffs_1_b_3_u_5_b_e C fl k _).trans (congr1 (fun L => utffs_1_b_3_u_5_b C fl k L (cp9 utffss5 (K .normal))) (utffs_1_b_3_u_5_l_p C fl k K m)))
theorem utffs_1_b_3_u_5_l_e {R} (C fl k) (K : KF R) : (cp9 utffss5 (ce C fl k (.block 2 (.loop cutffs_1_b_3_u_5_b)) K)) = utffs_1_b_3_u_5_l C fl k (cp9 utffss5 (K .normal)) k := (congr1 (fun g => (cp9 utffss5 (g))) (ce_loop C fl k cutffs_1_b_3_u_5_b 2 K)).trans (utffs_1_b_3_u_5_l_p C fl k K k)
def utffs_1_b_3_u_5 {R : Type} (C : Callee) (fl k : Nat) (kn : utffst2 R) (e1 : utffst2 R) : utffst5 R := utffs_1_b_3_u_5_l C fl k (utffs_1_b_3_u_5_6 C fl k kn e1) k
theorem utffs_1_b_3_u_5_e {R} (C fl k) (K : KF R) : (cp9 utffss5 (ce C fl k cutffs_1_b_3_u_5 K)) = utffs_1_b_3_u_5 C fl k (cp7 utffss2 (K .normal)) (cp7 utffss2 (K (.exit 1))) := ((congr1 (fun g => (cp9 utffss5 (g))) (ce_seq C fl k _ _ K)).trans (utffs_1_b_3_u_5_l_e C fl k (kseq C fl k cutffs_1_b_3_u_5_6 K))).trans (congr1 (fun L => utffs_1_b_3_u_5_l C fl k L k) ((congr1 (fun g => (cp9 utffss5 (g))) (seq_n C fl k cutffs_1_b_3_u_5_6 K)).trans (utffs_1_b_3_u_5_6_e C fl k K)))
def utffs_1_b_3_uF {R : Type} (C : Callee) (fl k : Nat) (kx : utffst5 R)  (kn : utffst2 R) (e1 : utffst2 R) : utffst2 R := fun t2 t4 t5 t10 t11 t12 t13 h => alc h [.int .i64 0] fun b78 h79 => st fl h79 ⟨b78, 0, none⟩ [.int .i64 ((t12.l : Nat) : Int)] fun h80 => ldI .i64 h80 b78 0 fun n81 => alc h80 [.int .i64 0] fun b82 h83 => st fl h83 ⟨b82, 0, none⟩ [.int .i64 n81] fun h84 => kx t2 t4 t5 t10 t11 t12 t13 ⟨b78, 0, none⟩ ⟨b82, 0, none⟩ h84
def utffs_1_b_3_u {R : Type} (C : Callee) (fl k : Nat) (kn : utffst2 R) (e1 : utffst2 R) : utffst2 R := utffs_1_b_3_uF C fl k (utffs_1_b_3_u_5 C fl k kn e1)  kn e1
theorem utffs_1_b_3_u_g {R} (C fl k) (cn : ACode) (K : KF R) : (cp7 utffss2 (ce C fl k (gcutffs_1_b_3_u cn) K)) = utffs_1_b_3_uF C fl k (cp9 utffss5 (ce C fl k cn K)) (cp7 utffss2 (K .normal)) (cp7 utffss2 (K (.exit 1))) := by kernel_rfl
theorem utffs_1_b_3_u_e {R} (C fl k) (K : KF R) : (cp7 utffss2 (ce C fl k cutffs_1_b_3_u K)) = utffs_1_b_3_u C fl k (cp7 utffss2 (K .normal)) (cp7 utffss2 (K (.exit 1))) := (utffs_1_b_3_u_g C fl k cutffs_1_b_3_u_5 K).trans (congr1 (fun L0 => utffs_1_b_3_uF C fl k L0 (cp7 utffss2 (K .normal)) (cp7 utffss2 (K (.exit 1)))) (utffs_1_b_3_u_5_e C fl k K))
def utffs_1_b_3F {R : Type} (C : Callee) (fl k : Nat) (kx : utffst2 R) (u0 : utffst2 R) (kn : utffst2 R) (e0 : utffst1 R) : utffst2 R := fun t2 t4 t5 t10 t11 t12 t13 h => u0 t2 t4 t5 t10 t11 t12 t13 h
def utffs_1_b_3 {R : Type} (C : Callee) (fl k : Nat) (kn : utffst2 R) (e0 : utffst1 R) : utffst2 R := utffs_1_b_3F C fl k (utffs_1_b_3_4 C fl k kn e0) (utffs_1_b_3_u C fl k (utffs_1_b_3_4 C fl k kn e0) (utffs_1_b_3_4 C fl k kn e0)) kn e0
theorem utffs_1_b_3_g {R} (C fl k) (cn cu0 : ACode) (K : KF R) : (cp7 utffss2 (ce C fl k (gcutffs_1_b_3 cn cu0) K)) = utffs_1_b_3F C fl k (cp7 utffss2 (ce C fl k cn K)) (cp7 utffss2 (ce C fl k cu0 (kblk 1 (kseq C fl k cn K)))) (cp7 utffss2 (K .normal)) (cp2 utffss1 (K (.exit 0))) := by kernel_rfl
theorem utffs_1_b_3_e {R} (C fl k) (K : KF R) : (cp7 utffss2 (ce C fl k cutffs_1_b_3 K)) = utffs_1_b_3 C fl k (cp7 utffss2 (K .normal)) (cp2 utffss1 (K (.exit 0))) := (utffs_1_b_3_g C fl k cutffs_1_b_3_4 cutffs_1_b_3_u K).trans (congr2 (fun L0 L1 => utffs_1_b_3F C fl k L0 L1 (cp7 utffss2 (K .normal)) (cp2 utffss1 (K (.exit 0)))) (utffs_1_b_3_4_e C fl k K) ((utffs_1_b_3_u_e C fl k (kblk 1 (kseq C fl k cutffs_1_b_3_4 K))).trans (congr2 (fun L0 L1 => utffs_1_b_3_u C fl k L0 L1) ((congr1 (fun g => (cp7 utffss2 (g))) (blk_n C fl k cutffs_1_b_3_4 1 K)).trans (utffs_1_b_3_4_e C fl k K)) ((congr1 (fun g => (cp7 utffss2 (g))) (blk_x C fl k cutffs_1_b_3_4 1 K)).trans (utffs_1_b_3_4_e C fl k K)))))
def utffs_1_bF {R : Type} (C : Callee) (fl k : Nat) (kx : utffst2 R)  (kn : utffst2 R) (e0 : utffst1 R) : utffst2 R := fun t2 t4 t5 t10 t11 t12 t13 h => if decide (t13 < t2) = true then ldS h t5.block t5.off fun s85 => if decide (((t12.l : Nat) : Int) < ((s85.l : Nat) : Int)) = true then kx t2 t4 t5 t10 t11 t12 t13 h else e0 t10 t12 h else e0 t10 t12 h
def utffs_1_b {R : Type} (C : Callee) (fl k : Nat) (kn : utffst2 R) (e0 : utffst1 R) : utffst2 R := utffs_1_bF C fl k (utffs_1_b_3 C fl k kn e0)  kn e0
theorem utffs_1_b_g {R} (C fl k) (cn : ACode) (K : KF R) : (cp7 utffss2 (ce C fl k (gcutffs_1_b cn) K)) = utffs_1_bF C fl k (cp7 utffss2 (ce C fl k cn K)) (cp7 utffss2 (K .normal)) (cp2 utffss1 (K (.exit 0))) := by kernel_rfl
theorem utffs_1_b_e {R} (C fl k) (K : KF R) : (cp7 utffss2 (ce C fl k cutffs_1_b K)) = utffs_1_b C fl k (cp7 utffss2 (K .normal)) (cp2 utffss1 (K (.exit 0))) := (utffs_1_b_g C fl k cutffs_1_b_3 K).trans (congr1 (fun L0 => utffs_1_bF C fl k L0 (cp7 utffss2 (K .normal)) (cp2 utffss1 (K (.exit 0)))) (utffs_1_b_3_e C fl k K))
def utffs_1_l {R : Type} (C : Callee) (fl k : Nat) (kn : utffst1 R) : Nat → utffst2 R
  | 0 => fun _ _ _ _ _ _ _ _ => none
  | m + 1 => utffs_1_b C fl k (utffs_1_l C fl k kn m) kn
theorem utffs_1_l_p {R} (C fl k) (K : KF R) : ∀ m, (cp7 utffss2 (loopK m (kstep C fl k cutffs_1_b 0 K))) = utffs_1_l C fl k (cp2 utffss1 (K .normal)) m
  | 0 => by kernel_rfl
  | m + 1 => (congr1 (fun g => (cp7 utffss2 (g))) (loop_ce C fl k cutffs_1_b 0 K m)).trans ((utffs_1_b_e C fl k _).trans (congr1 (fun L => utffs_1_b C fl k L (cp2 utffss1 (K .normal))) (utffs_1_l_p C fl k K m)))
theorem utffs_1_l_e {R} (C fl k) (K : KF R) : (cp7 utffss2 (ce C fl k (.block 0 (.loop cutffs_1_b)) K)) = utffs_1_l C fl k (cp2 utffss1 (K .normal)) k := (congr1 (fun g => (cp7 utffss2 (g))) (ce_loop C fl k cutffs_1_b 0 K)).trans (utffs_1_l_p C fl k K k)
def utffs_1 {R : Type} (C : Callee) (fl k : Nat) (kr : utffst0 R) : utffst2 R := utffs_1_l C fl k (utffs_1_2 C fl k kr) k
theorem utffs_1_e {R} (C fl k) (K : KF R) : (cp7 utffss2 (ce C fl k cutffs_1 K)) = utffs_1 C fl k (cp2 utffss0 (K .ret)) := ((congr1 (fun g => (cp7 utffss2 (g))) (ce_seq C fl k _ _ K)).trans (utffs_1_l_e C fl k (kseq C fl k cutffs_1_2 K))).trans (congr1 (fun L => utffs_1_l C fl k L k) ((congr1 (fun g => (cp2 utffss1 (g))) (seq_n C fl k cutffs_1_2 K)).trans (utffs_1_2_e C fl k K)))
def utffsF {R : Type} (C : Callee) (fl k : Nat) (kx : utffst2 R)  (kr : utffst0 R) : utffst6 R := fun t0 t1 t2 t3 h => alc h [.pointer t0] fun b86 h87 => alc h87 [.slice t1.a t1.l t1.c] fun b88 h89 => alc h89 [.slice t3.a t3.l t3.c] fun b90 h91 => kx t2 ⟨b86, 0, none⟩ ⟨b88, 0, none⟩ 1 (.func (.func fn.matrix_eliminate_1) ⟨[]⟩ ⟨[.pointer (some ⟨b88, 0, none⟩), .pointer (some ⟨b90, 0, none⟩)]⟩) ⟨none, 0, 0⟩ 0 h91
def utffs {R : Type} (C : Callee) (fl k : Nat) (kr : utffst0 R) : utffst6 R := utffsF C fl k (utffs_1 C fl k kr)  kr
theorem utffs_g {R} (C fl k) (cn : ACode) (K : KF R) : (cp4 utffss6 (ce C fl k (gcutffs cn) K)) = utffsF C fl k (cp7 utffss2 (ce C fl k cn K)) (cp2 utffss0 (K .ret)) := by kernel_rfl
theorem utffs_e {R} (C fl k) (K : KF R) : (cp4 utffss6 (ce C fl k cutffs K)) = utffs C fl k (cp2 utffss0 (K .ret)) := (utffs_g C fl k cutffs_1 K).trans (congr1 (fun L0 => utffsF C fl k L0 (cp2 utffss0 (K .ret))) (utffs_1_e C fl k K))
def matrix_eliminate (C : Callee) (fl k : Nat) (p0 : OA) (p1 : Sl) (p2 : Int) (p3 : Sl) (h : AH) : Option (Value × AH) := utffs C fl k (fun y8 y9 q => some (.tuple ⟨[.slice y8.a y8.l y8.c, .int .i64 y9]⟩, q)) p0 p1 p2 p3 h
theorem matrix_eliminate_run (C fl k) (p0 : OA) (p1 : Sl) (p2 : Int) (p3 : Sl) (h) : runF C fl k a_matrix_eliminate [.pointer p0, .slice p1.a p1.l p1.c, .int .i64 p2, .slice p3.a p3.l p3.c] h = matrix_eliminate C fl k p0 p1 p2 p3 h :=
  (runF_ce C fl k a_matrix_eliminate [.pointer p0, .slice p1.a p1.l p1.c, .int .i64 p2, .slice p3.a p3.l p3.c] h cutffs (utffss6 p0 p1 p2 p3) rfl (by kernel_rfl)).trans ((cp4_ap utffss6 (ce C fl k cutffs (finalK a_matrix_eliminate.results)) p0 p1 p2 p3 h).symm.trans ((congrFun (congrFun (congrFun (congrFun (congrFun (utffs_e C fl k (finalK a_matrix_eliminate.results)) p0) p1) p2) p3) h).trans (show utffs C fl k (cp2 utffss0 ((finalK a_matrix_eliminate.results) .ret)) p0 p1 p2 p3 h = matrix_eliminate C fl k p0 p1 p2 p3 h by kernel_rfl)))
def d_matrix_eliminate (C : Callee) (fl k : Nat) (args : List Value) (h : AH) : Option (Value × AH) := match args with
  | [.pointer n0, .slice n1a n1l n1c, .int .i64 n2, .slice n3a n3l n3c] => matrix_eliminate C fl k n0 ⟨n1a, n1l, n1c⟩ n2 ⟨n3a, n3l, n3c⟩ h
  | _ => none
theorem d_matrix_eliminate_run {C : Callee} {fl k : Nat} {args : List Value} {h : AH} {r : Value × AH} (e : d_matrix_eliminate C fl k args h = some r) : runF C fl k a_matrix_eliminate args h = some r := by
  unfold d_matrix_eliminate at e
  split at e
  · rename_i n0 n1a n1l n1c n2 n3a n3l n3c; exact (matrix_eliminate_run C fl k n0 ⟨n1a, n1l, n1c⟩ n2 ⟨n3a, n3l, n3c⟩ h).trans e
  · cases e
abbrev uo57mt0 (R : Type) := Int → AH → Option R
def uo57ms0 (t4 : Int) : List Value := un 4 (vi t4 :: un 4 [])
def cuo57m : ACode := .seq (.region [oI 4 (.mv (ci 0))] [4]) (.seq (.region [oI 5 (.mv (.t 0)), oI 6 (.mv (.t 1)), oI 7 (.call (.f 109) [.t 5, .t 6] (.one (.one .bool)))] [0, 5, 6]) (.seq (.cond (.t 7) (.seq (.region [oI 8 (.mv (.t 1)), oI 4 (.mv (.t 8))] [1, 7, 8]) (.ret)) (.region [] [1, 7])) (.seq (.region [oI 4 (.mv (ci 0))] []) (.ret))))
abbrev uo57mt1 (R : Type) := OA → Int → AH → Option R
def uo57ms1 (t0 : OA) (t1 : Int) : List Value := vn t0 :: vi t1 :: un 7 []
def a_field_GF_in : AFunc := ⟨9, cuo57m, [.tmp 4]⟩
theorem ok_field_GF_in : okF Tryz.prog 144 a_field_GF_in = true := by kernel_rfl
def uo57m {R : Type} (C : Callee) (fl k : Nat) (kr : uo57mt0 R) : uo57mt1 R := fun t0 t1 h => callF C fl fn.field_GF_Is [.pointer t0, .int .i64 t1] h fun v1 h2 => asBool v1 fun b3 => if b3 = true then kr t1 h2 else kr 0 h2
theorem uo57m_e {R} (C fl k) (K : KF R) : (cp2 uo57ms1 (ce C fl k cuo57m K)) = uo57m C fl k (cp1 uo57ms0 (K .ret)) := by kernel_rfl
def field_GF_in (C : Callee) (fl k : Nat) (p0 : OA) (p1 : Int) (h : AH) : Option (Value × AH) := uo57m C fl k (fun y4 q => some (.int .i64 y4, q)) p0 p1 h
theorem field_GF_in_run (C fl k) (p0 : OA) (p1 : Int) (h) : runF C fl k a_field_GF_in [.pointer p0, .int .i64 p1] h = field_GF_in C fl k p0 p1 h :=
  (runF_ce C fl k a_field_GF_in [.pointer p0, .int .i64 p1] h cuo57m (uo57ms1 p0 p1) rfl (by kernel_rfl)).trans ((cp2_ap uo57ms1 (ce C fl k cuo57m (finalK a_field_GF_in.results)) p0 p1 h).symm.trans ((congrFun (congrFun (congrFun (uo57m_e C fl k (finalK a_field_GF_in.results)) p0) p1) h).trans (show uo57m C fl k (cp1 uo57ms0 ((finalK a_field_GF_in.results) .ret)) p0 p1 h = field_GF_in C fl k p0 p1 h by kernel_rfl)))
def d_field_GF_in (C : Callee) (fl k : Nat) (args : List Value) (h : AH) : Option (Value × AH) := match args with
  | [.pointer n0, .int .i64 n1] => field_GF_in C fl k n0 n1 h
  | _ => none
theorem d_field_GF_in_run {C : Callee} {fl k : Nat} {args : List Value} {h : AH} {r : Value × AH} (e : d_field_GF_in C fl k args h = some r) : runF C fl k a_field_GF_in args h = some r := by
  unfold d_field_GF_in at e
  split at e
  · rename_i n0 n1; exact (field_GF_in_run C fl k n0 n1 h).trans e
  · cases e
abbrev uiffot0 (R : Type) := AH → Option R
def uiffos0 : List Value := un 33 []
abbrev uiffot1 (R : Type) := OA → Sl → Int → Sl → Int → Int → AH → Option R
def uiffos1 (t0 : OA) (t1 : Sl) (t2 : Int) (t10 : Sl) (t11 t12 : Int) : List Value := vn t0 :: t1.v :: vi t2 :: un 7 (t10.v :: vi t11 :: vi t12 :: un 20 [])
def cuiffo_1_b_2 : ACode := .region [oI 32 (.bin .add .i64 (.t 12) (ci 1)), oI 12 (.mv (.t 32))] [32]
def gcuiffo_1_b (cn : ACode) : ACode := .seq (.seq (.region [oI 13 (.cmp .lss .i64 (.t 12) (.t 11))] []) (.seq (.cond (.t 13) (.region [] [13]) (.seq (.region [] [0, 1, 2, 10, 11, 12, 13]) (.exit 0))) (.block 1 (.seq (.region [oI 14 (.mv (.t 12)), oI 15 (.iaddr 1 (.t 10) (.t 12)), oI 16 (.load (.one (.int .i64)) (.t 15)), oI 8 (.mv (.t 14)), oI 9 (.mv (.t 16))] [14, 15, 16]) (.seq (.region [oI 17 (.mv (.t 9)), oI 18 (.cmp .neq .i64 (.t 17) (ci 0))] [17]) (.cond (.t 18) (.region [oI 19 (.mv (.t 1)), oI 20 (.mv (.t 8)), oI 21 (.mv (.t 0)), oI 22 (.mv (.t 1)), oI 23 (.mv (.t 8)), oI 24 (.iaddr 1 (.t 22) (.t 23)), oJ 25 (.load (.one (.int .i64)) (.t 24)), oI 26 (.mv (.t 0)), oI 27 (.mv (.t 2)), oI 28 (.mv (.t 9)), oJ 29 (.call (.f 120) [.t 26, .t 27, .t 28] (.one (.one (.int .i64)))), oI 30 (.call (.f 149) [.t 21, .t 25, .t 29] (.one (.one (.int .i64)))), oI 31 (.iaddr 1 (.t 19) (.t 20)), pI (.store 1 (.t 31) (.t 30))] [8, 9, 18, 19, 20, 21, 22, 23, 24, 25, 26, 27, 28, 29, 30, 31]) (.region [] [8, 9, 18]))))))) cn
def cuiffo_1_b : ACode := gcuiffo_1_b cuiffo_1_b_2
def cuiffo_1 : ACode := .block 0 (.loop cuiffo_1_b)
def gcuiffo (cn : ACode) : ACode := .seq (.region [oI 10 (.mv (.t 3)), oI 11 (.len (.t 10)), oI 12 (.mv (ci 0))] [3]) cn
def cuiffo : ACode := gcuiffo cuiffo_1
abbrev uiffot2 (R : Type) := OA → Sl → Int → Sl → AH → Option R
def uiffos2 (t0 : OA) (t1 : Sl) (t2 : Int) (t3 : Sl) : List Value := vn t0 :: t1.v :: vi t2 :: t3.v :: un 29 []
def a_matrix_add : AFunc := ⟨33, cuiffo, []⟩
theorem ok_matrix_add : okF Tryz.prog 145 a_matrix_add = true := by kernel_rfl
def uiffo_1_b_2 {R : Type} (C : Callee) (fl k : Nat) (kn : uiffot1 R) (e0 : uiffot0 R) : uiffot1 R := fun t0 t1 t2 t10 t11 t12 h => kn t0 t1 t2 t10 t11 (w64 (t12 + 1)) h
theorem uiffo_1_b_2_e {R} (C fl k) (K : KF R) : (cp6 uiffos1 (ce C fl k cuiffo_1_b_2 K)) = uiffo_1_b_2 C fl k (cp6 uiffos1 (K .normal)) (cp0 uiffos0 (K (.exit 0))) := by kernel_rfl
def uiffo_1_bF {R : Type} (C : Callee) (fl k : Nat) (kx : uiffot1 R)  (kn : uiffot1 R) (e0 : uiffot0 R) : uiffot1 R := fun t0 t1 t2 t10 t11 t12 h => if decide (t12 < t11) = true then idx 1 t10 t12 fun p1 => ldI .i64 h p1.block p1.off fun n2 => if (n2 != 0) = true then idx 1 t1 t12 fun p3 => ldI .i64 h p3.block p3.off fun n4 => callF C h.next fn.field_GF_Mul [.pointer t0, .int .i64 t2, .int .i64 n2] h fun v5 h6 => asInt .i64 v5 fun n7 => callF C fl fn.field_GF_Add [.pointer t0, .int .i64 n4, .int .i64 n7] h6 fun v8 h9 => asInt .i64 v8 fun n10 => idx 1 t1 t12 fun p11 => st fl h9 p11 [.int .i64 n10] fun h12 => kx t0 t1 t2 t10 t11 t12 h12 else kx t0 t1 t2 t10 t11 t12 h else e0 h
def uiffo_1_b {R : Type} (C : Callee) (fl k : Nat) (kn : uiffot1 R) (e0 : uiffot0 R) : uiffot1 R := uiffo_1_bF C fl k (uiffo_1_b_2 C fl k kn e0)  kn e0
theorem uiffo_1_b_g {R} (C fl k) (cn : ACode) (K : KF R) : (cp6 uiffos1 (ce C fl k (gcuiffo_1_b cn) K)) = uiffo_1_bF C fl k (cp6 uiffos1 (ce C fl k cn K)) (cp6 uiffos1 (K .normal)) (cp0 uiffos0 (K (.exit 0))) := by kernel_rfl
theorem uiffo_1_b_e {R} (C fl k) (K : KF R) : (cp6 uiffos1 (ce C fl k cuiffo_1_b K)) = uiffo_1_b C fl k (cp6 uiffos1 (K .normal)) (cp0 uiffos0 (K (.exit 0))) := (uiffo_1_b_g C fl k cuiffo_1_b_2 K).trans (congr1 (fun L0 => uiffo_1_bF C fl k L0 (cp6 uiffos1 (K .normal)) (cp0 uiffos0 (K (.exit 0)))) (uiffo_1_b_2_e C fl k K))
def uiffo_1_l {R : Type} (C : Callee) (fl k : Nat) (kn : uiffot0 R) : Nat → uiffot1 R
  | 0 => fun _ _ _ _ _ _ _ => none
  | m + 1 => uiffo_1_b C fl k (uiffo_1_l C fl k kn m) kn
theorem uiffo_1_l_p {R} (C fl k) (K : KF R) : ∀ m, (cp6 uiffos1 (loopK m (kstep C fl k cuiffo_1_b 0 K))) = uiffo_1_l C fl k (cp0 uiffos0 (K .normal)) m
  | 0 => by kernel_rfl
  | m + 1 => (congr1 (fun g => (cp6 uiffos1 (g))) (loop_ce C fl k cuiffo_1_b 0 K m)).trans ((uiffo_1_b_e C fl k _).trans (congr1 (fun L => uiffo_1_b C fl k L (cp0 uiffos0 (K .normal))) (uiffo_1_l_p C fl k K m)))
theorem uiffo_1_l_e {R} (C fl k) (K : KF R) : (cp6 uiffos1 (ce C fl k (.block 0 (.loop cuiffo_1_b)) K)) = uiffo_1_l C fl k (cp0 uiffos0 (K .normal)) k := (congr1 (fun g => (cp6 uiffos1 (g))) (ce_loop C fl k cuiffo_1_b 0 K)).trans (uiffo_1_l_p C fl k K k)
def uiffo_1 {R : Type} (C : Callee) (fl k : Nat) (kn : uiffot0 R) : uiffot1 R := uiffo_1_l C fl k kn k
theorem uiffo_1_e {R} (C fl k) (K : KF R) : (cp6 uiffos1 (ce C fl k cuiffo_1 K)) = uiffo_1 C fl k (cp0 uiffos0 (K .normal)) := uiffo_1_l_e C fl k K
def uiffoF {R : Type} (C : Callee) (fl k : Nat) (kx : uiffot1 R)  (kn : uiffot0 R) : uiffot2 R := fun t0 t1 t2 t3 h => kx t0 t1 t2 t3 ((t3.l : Nat) : Int) 0 h
def uiffo {R : Type} (C : Callee) (fl k : Nat) (kn : uiffot0 R) : uiffot2 R := uiffoF C fl k (uiffo_1 C fl k kn)  kn
theorem uiffo_g {R} (C fl k) (cn : ACode) (K : KF R) : (cp4 uiffos2 (ce C fl k (gcuiffo cn) K)) = uiffoF C fl k (cp6 uiffos1 (ce C fl k cn K)) (cp0 uiffos0 (K .normal)) := by kernel_rfl
theorem uiffo_e {R} (C fl k) (K : KF R) : (cp4 uiffos2 (ce C fl k cuiffo K)) = uiffo C fl k (cp0 uiffos0 (K .normal)) := (uiffo_g C fl k cuiffo_1 K).trans (congr1 (fun L0 => uiffoF C fl k L0 (cp0 uiffos0 (K .normal))) (uiffo_1_e C fl k K))
def matrix_add (C : Callee) (fl k : Nat) (p0 : OA) (p1 : Sl) (p2 : Int) (p3 : Sl) (h : AH) : Option (Value × AH) := uiffo C fl k (fun q => some (.tuple ⟨[]⟩, q)) p0 p1 p2 p3 h
theorem matrix_add_run (C fl k) (p0 : OA) (p1 : Sl) (p2 : Int) (p3 : Sl) (h) : runF C fl k a_matrix_add [.pointer p0, .slice p1.a p1.l p1.c, .int .i64 p2, .slice p3.a p3.l p3.c] h = matrix_add C fl k p0 p1 p2 p3 h :=
  (runF_ce C fl k a_matrix_add [.pointer p0, .slice p1.a p1.l p1.c, .int .i64 p2, .slice p3.a p3.l p3.c] h cuiffo (uiffos2 p0 p1 p2 p3) rfl (by kernel_rfl)).trans ((cp4_ap uiffos2 (ce C fl k cuiffo (finalK a_matrix_add.results)) p0 p1 p2 p3 h).symm.trans ((congrFun (congrFun (congrFun (congrFun (congrFun (uiffo_e C fl k (finalK a_matrix_add.results)) p0) p1) p2) p3) h).trans (show uiffo C fl k (cp0 uiffos0 ((finalK a_matrix_add.results) .normal)) p0 p1 p2 p3 h = matrix_add C fl k p0 p1 p2 p3 h by kernel_rfl)))
def d_matrix_add (C : Callee) (fl k : Nat) (args : List Value) (h : AH) : Option (Value × AH) := match args with
  | [.pointer n0, .slice n1a n1l n1c, .int .i64 n2, .slice n3a n3l n3c] => matrix_add C fl k n0 ⟨n1a, n1l, n1c⟩ n2 ⟨n3a, n3l, n3c⟩ h
  | _ => none
theorem d_matrix_add_run {C : Callee} {fl k : Nat} {args : List Value} {h : AH} {r : Value × AH} (e : d_matrix_add C fl k args h = some r) : runF C fl k a_matrix_add args h = some r := by
  unfold d_matrix_add at e
  split at e
  · rename_i n0 n1a n1l n1c n2 n3a n3l n3c; exact (matrix_add_run C fl k n0 ⟨n1a, n1l, n1c⟩ n2 ⟨n3a, n3l, n3c⟩ h).trans e
  · cases e
abbrev uods9t0 (R : Type) := Bool → AH → Option R
def uods9s0 (t2 : Bool) : List Value := un 2 (.bool t2 :: un 14 [])
def cuods9_1_2 : ACode := .seq (.region [oI 15 (.mv (.t 0)), oI 16 (.cmp .geq .i64 (.t 15) (ci 2)), oI 2 (.mv (.t 16))] [0, 15, 16]) (.ret)
abbrev uods9t1 (R : Type) := Int → AH → Option R
def uods9s1 (t0 : Int) : List Value := vi t0 :: un 16 []
abbrev uods9t2 (R : Type) := Int → Int → AH → Option R
def uods9s2 (t0 t3 : Int) : List Value := vi t0 :: un 2 (vi t3 :: un 13 [])
def cuods9_1_b : ACode := .seq (.region [oI 4 (.mv (.t 3)), oI 5 (.mv (.t 3)), oI 6 (.bin .mul .i64 (.t 4) (.t 5)), oI 7 (.mv (.t 0)), oI 8 (.cmp .leq .i64 (.t 6) (.t 7))] [4, 5, 6, 7]) (.seq (.cond (.t 8) (.region [] [8]) (.seq (.region [] [3, 8]) (.exit 0))) (.seq (.block 1 (.seq (.region [oI 11 (.mv (.t 0)), oI 12 (.mv (.t 3)), oI 13 (.bin .rem .i64 (.t 11) (.t 12)), oI 14 (.cmp .eql .i64 (.t 13) (ci 0))] [11, 12, 13]) (.cond (.t 14) (.seq (.region [oI 2 (.mv (.c (.bool false)))] [0, 3, 14]) (.ret)) (.region [] [14])))) (.region [oI 9 (.mv (.t 3)), oI 10 (.bin .add .i64 (.t 9) (ci 1)), oI 3 (.mv (.t 10))] [9, 10])))
def cuods9_1 : ACode := .seq (.block 0 (.loop cuods9_1_b)) cuods9_1_2
def gcuods9 (cn : ACode) : ACode := .seq (.seq (.region [oI 2 (.mv (.c (.bool false)))] [2]) (.region [oI 3 (.mv (ci 2))] [])) cn
def cuods9 : ACode := gcuods9 cuods9_1
def a_field_isPrime : AFunc := ⟨17, cuods9, [.tmp 2]⟩
theorem ok_field_isPrime : okF Tryz.prog 146 a_field_isPrime = true := by kernel_rfl
def uods9_1_2 {R : Type} (C : Callee) (fl k : Nat) (kr : uods9t0 R) : uods9t1 R := fun t0 h => kr (decide (t0 ≥ 2)) h
theorem uods9_1_2_e {R} (C fl k) (K : KF R) : (cp1 uods9s1 (ce C fl k cuods9_1_2 K)) = uods9_1_2 C fl k (cp1 uods9s0 (K .ret)) := by kernel_rfl
def uods9_1_b {R : Type} (C : Callee) (fl k : Nat) (kn : uods9t2 R) (e0 : uods9t1 R) (kr : uods9t0 R) : uods9t2 R := fun t0 t3 h => if decide (w64 (t3 * t3) ≤ t0) = true then binQ .rem .i64 t0 t3 fun n1 => if (n1 == 0) = true then kr false h else kn t0 (w64 (t3 + 1)) h else e0 t0 h
theorem uods9_1_b_e {R} (C fl k) (K : KF R) : (cp2 uods9s2 (ce C fl k cuods9_1_b K)) = uods9_1_b C fl k (cp2 uods9s2 (K .normal)) (cp1 uods9s1 (K (.exit 0))) (cp1 uods9s0 (K .ret)) := by kernel_rfl
def uods9_1_l {R : Type} (C : Callee) (fl k : Nat) (kn : uods9t1 R) (kr : uods9t0 R) : Nat → uods9t2 R
  | 0 => fun _ _ _ => none
  | m + 1 => uods9_1_b C fl k (uods9_1_l C fl k kn kr m) kn kr
theorem uods9_1_l_p {R} (C fl k) (K : KF R) : ∀ m, (cp2 uods9s2 (loopK m (kstep C fl k cuods9_1_b 0 K))) = uods9_1_l C fl k (cp1 uods9s1 (K .normal)) (cp1 uods9s0 (K .ret)) m
  | 0 => by kernel_rfl
  | m + 1 => (congr1 (fun g => (cp2 uods9s2 (g))) (loop_ce C fl k cuods9_1_b 0 K m)).trans ((uods9_1_b_e C fl k _).trans (congr1 (fun L => uods9_1_b C fl k L (cp1 uods9s1 (K .normal)) (cp1 uods9s0 (K .ret))) (uods9_1_l_p C fl k K m)))
theorem uods9_1_l_e {R} (C fl k) (K : KF R) : (cp2 uods9s2 (ce C fl k (.block 0 (.loop cuods9_1_b)) K)) = uods9_1_l C fl k (cp1 uods9s1 (K .normal)) (cp1 uods9s0 (K .ret)) k := (congr1 (fun g => (cp2 uods9s2 (g))) (ce_loop C fl k cuods9_1_b 0 K)).trans (uods9_1_l_p C fl k K k)
def uods9_1 {R : Type} (C : Callee) (fl k : Nat) (kr : uods9t0 R) : uods9t2 R := uods9_1_l C fl k (uods9_1_2 C fl k kr) kr k
theorem uods9_1_e {R} (C fl k) (K : KF R) : (cp2 uods9s2 (ce C fl k cuods9_1 K)) = uods9_1 C fl k (cp1 uods9s0 (K .ret)) := ((congr1 (fun g => (cp2 uods9s2 (g))) (ce_seq C fl k _ _ K)).trans (uods9_1_l_e C fl k (kseq C fl k cuods9_1_2 K))).trans (congr1 (fun L => uods9_1_l C fl k L (cp1 uods9s0 (K .ret)) k) ((congr1 (fun g => (cp1 uods9s1 (g))) (seq_n C fl k cuods9_1_2 K)).trans (uods9_1_2_e C fl k K)))
def uods9F {R : Type} (C : Callee) (fl k : Nat) (kx : uods9t2 R)  (kr : uods9t0 R) : uods9t1 R := fun t0 h => kx t0 2 h
def uods9 {R : Type} (C : Callee) (fl k : Nat) (kr : uods9t0 R) : uods9t1 R := uods9F C fl k (uods9_1 C fl k kr)  kr
theorem uods9_g {R} (C fl k) (cn : ACode) (K : KF R) : (cp1 uods9s1 (ce C fl k (gcuods9 cn) K)) = uods9F C fl k (cp2 uods9s2 (ce C fl k cn K)) (cp1 uods9s0 (K .ret)) := by kernel_rfl
theorem uods9_e {R} (C fl k) (K : KF R) : (cp1 uods9s1 (ce C fl k cuods9 K)) = uods9 C fl k (cp1 uods9s0 (K .ret)) := (uods9_g C fl k cuods9_1 K).trans (congr1 (fun L0 => uods9F C fl k L0 (cp1 uods9s0 (K .ret))) (uods9_1_e C fl k K))
def field_isPrime (C : Callee) (fl k : Nat) (p0 : Int) (h : AH) : Option (Value × AH) := uods9 C fl k (fun y2 q => some (.bool y2, q)) p0 h
theorem field_isPrime_run (C fl k) (p0 : Int) (h) : runF C fl k a_field_isPrime [.int .i64 p0] h = field_isPrime C fl k p0 h :=
  (runF_ce C fl k a_field_isPrime [.int .i64 p0] h cuods9 (uods9s1 p0) rfl (by kernel_rfl)).trans ((cp1_ap uods9s1 (ce C fl k cuods9 (finalK a_field_isPrime.results)) p0 h).symm.trans ((congrFun (congrFun (uods9_e C fl k (finalK a_field_isPrime.results)) p0) h).trans (show uods9 C fl k (cp1 uods9s0 ((finalK a_field_isPrime.results) .ret)) p0 h = field_isPrime C fl k p0 h by kernel_rfl)))
def d_field_isPrime (C : Callee) (fl k : Nat) (args : List Value) (h : AH) : Option (Value × AH) := match args with
  | [.int .i64 n0] => field_isPrime C fl k n0 h
  | _ => none
theorem d_field_isPrime_run {C : Callee} {fl k : Nat} {args : List Value} {h : AH} {r : Value × AH} (e : d_field_isPrime C fl k args h = some r) : runF C fl k a_field_isPrime args h = some r := by
  unfold d_field_isPrime at e
  split at e
  · rename_i n0; exact (field_isPrime_run C fl k n0 h).trans e
  · cases e
abbrev uk1r4t0 (R : Type) := Sl → AH → Option R
def uk1r4s0 (t6 : Sl) : List Value := un 6 (t6.v :: un 30 [])
def cuk1r4_1_2 : ACode := .seq (.region [oI 36 (.mv (.t 7)), oI 6 (.mv (.t 36))] [7, 36]) (.ret)
abbrev uk1r4t1 (R : Type) := Sl → AH → Option R
def uk1r4s1 (t7 : Sl) : List Value := un 7 (t7.v :: un 29 [])
abbrev uk1r4t2 (R : Type) := Int → Addr → Sl → Sl → Int → AH → Option R
def uk1r4s2 (t2 : Int) (t3 : Addr) (t7 t8 : Sl) (t9 : Int) : List Value := un 2 (vi t2 :: vp t3 :: un 3 (t7.v :: t8.v :: vi t9 :: un 27 []))
def cuk1r4_1_b : ACode := .seq (.region [oI 16 (.mv (.t 9)), oI 17 (.cmp .neq .i64 (.t 16) (ci 0)), oI 18 (.mv (.t 17)), .grp 18 true [qI 19 (.mv (.t 8)), qI 20 (.mv (.t 9)), qI 21 (.iaddr 1 (.t 19) (.t 20)), qI 22 (.load (.one .bool) (.t 21)), qI 23 (.not (.t 22))], oI 24 (.pick (.t 18) (.t 23) (.c (.bool false)))] [16, 17, 18, 19, 20, 21, 22, 23]) (.seq (.cond (.t 24) (.region [] [24]) (.seq (.region [] [2, 3, 8, 9, 24]) (.exit 0))) (.seq (.block 1 (.seq (.region [oI 29 (.mv (.t 8)), oI 30 (.mv (.t 9)), oI 31 (.iaddr 1 (.t 29) (.t 30)), pI (.store 1 (.t 31) (.c (.bool true)))] [29, 30, 31]) (.region [oI 32 (.mv (.t 7)), oI 33 (.mv (.t 9)), oI 34 (.bslice 1 [.int .i64 0] [(0, 1, .t 33)]), oI 35 (.append 1 8 (.t 32) (.t 34)), oI 7 (.mv (.t 35))] [32, 33, 34, 35]))) (.region [oI 25 (.load (.agg [.int .i64, .int .i64, .slice]) (.t 3)), oI 26 (.mv (.t 9)), oI 27 (.mv (.t 2)), oI 28 (.call (.f 148) [.t 25, .t 26, .t 27] (.one (.one (.int .i64)))), oI 9 (.mv (.t 28))] [25, 26, 27, 28])))
def cuk1r4_1 : ACode := .seq (.block 0 (.loop cuk1r4_1_b)) cuk1r4_1_2
def gcuk1r4 (cn : ACode) : ACode := .seq (.seq (.region [oI 3 (.box (.t 0)), oI 6 (.mv (.c (.slice none 0 0)))] [0, 6]) (.seq (.region [oI 10 (.bslice 1 [.int .i64 0] [(0, 1, ci 1)]), oI 7 (.mv (.t 10))] [10]) (.seq (.region [oI 11 (.mv (.t 1)), oI 12 (.mkslice 1 [.bool false] (.t 11) (.t 11)), oI 8 (.mv (.t 12))] [1, 11, 12]) (.seq (.region [oI 13 (.mv (.t 8)), oI 14 (.iaddr 1 (.t 13) (ci 1)), pI (.store 1 (.t 14) (.c (.bool true)))] [13, 14]) (.region [oI 15 (.mv (.t 2)), oI 9 (.mv (.t 15))] [15]))))) cn
def cuk1r4 : ACode := gcuk1r4 cuk1r4_1
abbrev uk1r4t3 (R : Type) := Int → Int → Sl → Int → Int → AH → Option R
def uk1r4s3 (t0_0 t0_1 : Int) (t0_2 : Sl) (t1 t2 : Int) : List Value := .agg ⟨[.int .i64 t0_0, .int .i64 t0_1, .slice t0_2.a t0_2.l t0_2.c]⟩ :: vi t1 :: vi t2 :: un 34 []
def a_field_powers : AFunc := ⟨37, cuk1r4, [.tmp 6]⟩
theorem ok_field_powers : okF Tryz.prog 147 a_field_powers = true := by kernel_rfl
def uk1r4_1_2 {R : Type} (C : Callee) (fl k : Nat) (kr : uk1r4t0 R) : uk1r4t1 R := fun t7 h => kr t7 h
theorem uk1r4_1_2_e {R} (C fl k) (K : KF R) : (cp1 uk1r4s1 (ce C fl k cuk1r4_1_2 K)) = uk1r4_1_2 C fl k (cp1 uk1r4s0 (K .ret)) := by kernel_rfl
def uk1r4_1_b {R : Type} (C : Callee) (fl k : Nat) (kn : uk1r4t2 R) (e0 : uk1r4t1 R) : uk1r4t2 R := fun t2 t3 t7 t8 t9 h => if (t9 != 0) = true then idx 1 t8 t9 fun p1 => ldB h p1.block p1.off fun b2 => if (!b2) = true then idx 1 t8 t9 fun p3 => st fl h p3 [.bool true] fun h4 => alc h4 [.int .i64 t9] fun b5 h6 => apnd fl 1 8 t7 ⟨(some ⟨b5, 0, none⟩), 1, 1⟩ h6 fun s7 h8 => ldI .i64 h8 t3.block t3.off fun n9 => ldI .i64 h8 t3.block (t3.off + 1) fun n10 => ldS h8 t3.block (t3.off + 1 + 1) fun s11 => callF C fl fn.field_multiply [.agg ⟨[.int .i64 n9, .int .i64 n10, .slice s11.a s11.l s11.c]⟩, .int .i64 t9, .int .i64 t2] h8 fun v12 h13 => asInt .i64 v12 fun n14 => kn t2 t3 s7 t8 n14 h13 else e0 t7 h else e0 t7 h
theorem uk1r4_1_b_e {R} (C fl k) (K : KF R) : (cp5 uk1r4s2 (ce C fl k cuk1r4_1_b K)) = uk1r4_1_b C fl k (cp5 uk1r4s2 (K .normal)) (cp1 uk1r4s1 (K (.exit 0))) := by kernel_rfl
def uk1r4_1_l {R : Type} (C : Callee) (fl k : Nat) (kn : uk1r4t1 R) : Nat → uk1r4t2 R
  | 0 => fun _ _ _ _ _ _ => none
  | m + 1 => uk1r4_1_b C fl k (uk1r4_1_l C fl k kn m) kn
theorem uk1r4_1_l_p {R} (C fl k) (K : KF R) : ∀ m, (cp5 uk1r4s2 (loopK m (kstep C fl k cuk1r4_1_b 0 K))) = uk1r4_1_l C fl k (cp1 uk1r4s1 (K .normal)) m
  | 0 => by kernel_rfl
  | m + 1 => (congr1 (fun g => (cp5 uk1r4s2 (g))) (loop_ce C fl k cuk1r4_1_b 0 K m)).trans ((uk1r4_1_b_e C fl k _).trans (congr1 (fun L => uk1r4_1_b C fl k L (cp1 uk1r4s1 (K .normal))) (uk1r4_1_l_p C fl k K m)))
theorem uk1r4_1_l_e {R} (C fl k) (K : KF R) : (cp5 uk1r4s2 (ce C fl k (.block 0 (.loop cuk1r4_1_b)) K)) = uk1r4_1_l C fl k (cp1 uk1r4s1 (K .normal)) k := (congr1 (fun g => (cp5 uk1r4s2 (g))) (ce_loop C fl k cuk1r4_1_b 0 K)).trans (uk1r4_1_l_p C fl k K k)
def uk1r4_1 {R : Type} (C : Callee) (fl k : Nat) (kr : uk1r4t0 R) : uk1r4t2 R := uk1r4_1_l C fl k (uk1r4_1_2 C fl k kr) k
theorem uk1r4_1_e {R} (C fl k) (K : KF R) : (cp5 uk1r4s2 (ce C fl k cuk1r4_1 K)) = uk1r4_1 C fl k (cp1 uk1r4s0 (K .ret)) := ((congr1 (fun g => (cp5 uk1r4s2 (g))) (ce_seq C fl k _ _ K)).trans (uk1r4_1_l_e C fl k (kseq C fl k cuk1r4_1_2 K))).trans (congr1 (fun L => uk1r4_1_l C fl k L k) ((congr1 (fun g => (cp1 uk1r4s1 (g))) (seq_n C fl k cuk1r4_1_2 K)).trans (uk1r4_1_2_e C fl k K)))
def uk1r4F {R : Type} (C : Callee) (fl k : Nat) (kx : uk1r4t2 R)  (kr : uk1r4t0 R) : uk1r4t3 R := fun t0_0 t0_1 t0_2 t1 t2 h => alc h [.int .i64 t0_0, .int .i64 t0_1, .slice t0_2.a t0_2.l t0_2.c] fun b15 h16 => alc h16 [.int .i64 1] fun b17 h18 => mkSl 1 [.bool false] t1 t1 h18 fun s19 h20 => idx 1 s19 1 fun p21 => st fl h20 p21 [.bool true] fun h22 => kx t2 ⟨b15, 0, none⟩ ⟨(some ⟨b17, 0, none⟩), 1, 1⟩ s19 t2 h22
def uk1r4 {R : Type} (C : Callee) (fl k : Nat) (kr : uk1r4t0 R) : uk1r4t3 R := uk1r4F C fl k (uk1r4_1 C fl k kr)  kr
theorem uk1r4_g {R} (C fl k) (cn : ACode) (K : KF R) : (cp5 uk1r4s3 (ce C fl k (gcuk1r4 cn) K)) = uk1r4F C fl k (cp5 uk1r4s2 (ce C fl k cn K)) (cp1 uk1r4s0 (K .ret)) := by kernel_rfl
theorem uk1r4_e {R} (C fl k) (K : KF R) : (cp5 uk1r4s3 (ce C fl k cuk1r4 K)) = uk1r4 C fl k (cp1 uk1r4s0 (K .ret)) := (uk1r4_g C fl k cuk1r4_1 K).trans (congr1 (fun L0 => uk1r4F C fl k L0 (cp1 uk1r4s0 (K .ret))) (uk1r4_1_e C fl k K))
def field_powers (C : Callee) (fl k : Nat) (p0_0 p0_1 : Int) (p0_2 : Sl) (p1 p2 : Int) (h : AH) : Option (Value × AH) := uk1r4 C fl k (fun y6 q => some (.slice y6.a y6.l y6.c, q)) p0_0 p0_1 p0_2 p1 p2 h
theorem field_powers_run (C fl k) (p0_0 p0_1 : Int) (p0_2 : Sl) (p1 p2 : Int) (h) : runF C fl k a_field_powers [.agg ⟨[.int .i64 p0_0, .int .i64 p0_1, .slice p0_2.a p0_2.l p0_2.c]⟩, .int .i64 p1, .int .i64 p2] h = field_powers C fl k p0_0 p0_1 p0_2 p1 p2 h :=
  (runF_ce C fl k a_field_powers [.agg ⟨[.int .i64 p0_0, .int .i64 p0_1, .slice p0_2.a p0_2.l p0_2.c]⟩, .int .i64 p1, .int .i64 p2] h cuk1r4 (uk1r4s3 p0_0 p0_1 p0_2 p1 p2) rfl (by kernel_rfl)).trans ((cp5_ap uk1r4s3 (ce C fl k cuk1r4 (finalK a_field_powers.results)) p0_0 p0_1 p0_2 p1 p2 h).symm.trans ((congrFun (congrFun (congrFun (congrFun (congrFun (congrFun (uk1r4_e C fl k (finalK a_field_powers.results)) p0_0) p0_1) p0_2) p1) p2) h).trans (show uk1r4 C fl k (cp1 uk1r4s0 ((finalK a_field_powers.results) .ret)) p0_0 p0_1 p0_2 p1 p2 h = field_powers C fl k p0_0 p0_1 p0_2 p1 p2 h by kernel_rfl)))
def d_field_powers (C : Callee) (fl k : Nat) (args : List Value) (h : AH) : Option (Value × AH) := match args with
  | [.agg ⟨[.int .i64 n1, .int .i64 n2, .slice n3a n3l n3c]⟩, .int .i64 n4, .int .i64 n5] => field_powers C fl k n1 n2 ⟨n3a, n3l, n3c⟩ n4 n5 h
  | _ => none
theorem d_field_powers_run {C : Callee} {fl k : Nat} {args : List Value} {h : AH} {r : Value × AH} (e : d_field_powers C fl k args h = some r) : runF C fl k a_field_powers args h = some r := by
  unfold d_field_powers at e
  split at e
  · rename_i n1 n2 n3a n3l n3c n4 n5; exact (field_powers_run C fl k n1 n2 ⟨n3a, n3l, n3c⟩ n4 n5 h).trans e
  · cases e
abbrev ubkp2t0 (R : Type) := Int → AH → Option R
def ubkp2s0 (t6 : Int) : List Value := un 6 (vi t6 :: un 90 [])
def cubkp2_1_2 : ACode := .seq (.region [oI 93 (.mv (.t 9)), oI 94 (.faddr 0 (.t 3)), oI 95 (.load (.one (.int .i64)) (.t 94)), oI 96 (.call (.f 171) [.t 93, .t 95] (.one (.one (.int .i64)))), oI 6 (.mv (.t 96))] [3, 9, 93, 94, 95, 96]) (.ret)
abbrev ubkp2t1 (R : Type) := Addr → Sl → AH → Option R
def ubkp2s1 (t3 : Addr) (t9 : Sl) : List Value := un 3 (vp t3 :: un 5 (t9.v :: un 87 []))
abbrev ubkp2t2 (R : Type) := Addr → Sl → Sl → Sl → Int → AH → Option R
def ubkp2s2 (t3 : Addr) (t7 t8 t9 : Sl) (t10 : Int) : List Value := un 3 (vp t3 :: un 3 (t7.v :: t8.v :: t9.v :: vi t10 :: un 86 []))
def cubkp2_1_b_3_4 : ACode := .region [oI 34 (.mv (.t 10)), oI 35 (.bin .sub .i64 (.t 34) (ci 1)), oI 10 (.mv (.t 35))] [34, 35]
abbrev ubkp2t3 (R : Type) := Addr → Sl → Sl → Sl → Int → Int → Int → Int → AH → Option R
def ubkp2s3 (t3 : Addr) (t7 t8 t9 : Sl) (t10 t11 t53 t54 : Int) : List Value := un 3 (vp t3 :: un 3 (t7.v :: t8.v :: t9.v :: vi t10 :: vi t11 :: un 41 (vi t53 :: vi t54 :: un 42 [])))
def cubkp2_1_b_3_u_5_b_6 : ACode := .region [oI 92 (.bin .add .i64 (.t 54) (ci 1)), oI 54 (.mv (.t 92))] [92]
def gcubkp2_1_b_3_u_5_b (cn : ACode) : ACode := .seq (.seq (.region [oI 55 (.cmp .lss .i64 (.t 54) (.t 53))] []) (.seq (.cond (.t 55) (.region [] [55]) (.seq (.region [] [11, 53, 54, 55]) (.exit 2))) (.block 3 (.seq (.region [oI 56 (.mv (.t 54)), oI 12 (.mv (.t 56))] [56]) (.seq (.region [oI 13 (.mv (ci 0))] []) (.seq (.seq (.region [oI 57 (.faddr 1 (.t 3)), oI 58 (.load (.one (.int .i64)) (.t 57)), oI 59 (.cmp .gtr .i64 (.t 58) (ci 1))] [57, 58]) (.cond (.t 59) (.region [oI 60 (.faddr 2 (.t 3)), oI 61 (.load (.one .slice) (.t 60)), oI 62 (.mv (.t 12)), oI 63 (.iaddr 1 (.t 61) (.t 62)), oI 64 (.load (.one (.int .i64)) (.t 63)), oI 13 (.mv (.t 64))] [59, 60, 61, 62, 63, 64]) (.region [] [59]))) (.region [oI 65 (.mv (.t 9)), oI 66 (.mv (.t 12)), oI 67 (.mv (.t 9)), oI 68 (.mv (.t 12)), oI 69 (.iaddr 1 (.t 67) (.t 68)), oJ 70 (.load (.one (.int .i64)) (.t 69)), oI 71 (.faddr 0 (.t 3)), oJ 72 (.load (.one (.int .i64)) (.t 71)), oI 73 (.mv (.t 11)), oI 74 (.bin .sub .i64 (.t 72) (.t 73)), oI 75 (.mv (.t 13)), oI 76 (.bin .mul .i64 (.t 74) (.t 75)), oI 77 (.bin .add .i64 (.t 70) (.t 76)), oI 78 (.mv (.t 8)), oI 79 (.mv (.t 10)), oI 80 (.iaddr 1 (.t 78) (.t 79)), oJ 81 (.load (.one (.int .i64)) (.t 80)), oI 82 (.mv (.t 7)), oI 83 (.mv (.t 12)), oI 84 (.iaddr 1 (.t 82) (.t 83)), oJ 85 (.load (.one (.int .i64)) (.t 84)), oI 86 (.bin .mul .i64 (.t 81) (.t 85)), oI 87 (.bin .add .i64 (.t 77) (.t 86)), oI 88 (.faddr 0 (.t 3)), oJ 89 (.load (.one (.int .i64)) (.t 88)), oI 90 (.bin .rem .i64 (.t 87) (.t 89)), oI 91 (.iaddr 1 (.t 65) (.t 66)), pI (.store 1 (.t 91) (.t 90))] [12, 13, 65, 66, 67, 68, 69, 70, 71, 72, 73, 74, 75, 76, 77, 78, 79, 80, 81, 82, 83, 84, 85, 86, 87, 88, 89, 90, 91]))))))) cn
def cubkp2_1_b_3_u_5_b : ACode := gcubkp2_1_b_3_u_5_b cubkp2_1_b_3_u_5_b_6
def cubkp2_1_b_3_u_5 : ACode := .block 2 (.loop cubkp2_1_b_3_u_5_b)
def gcubkp2_1_b_3_u (cn : ACode) : ACode := .seq (.seq (.region [oI 36 (.mv (.t 9)), oI 37 (.faddr 1 (.t 3)), oI 38 (.load (.one (.int .i64)) (.t 37)), oI 39 (.bin .sub .i64 (.t 38) (ci 1)), oI 40 (.iaddr 1 (.t 36) (.t 39)), oI 41 (.load (.one (.int .i64)) (.t 40)), oI 11 (.mv (.t 41))] [36, 37, 38, 39, 40, 41]) (.seq (.region [oI 42 (.mv (.t 9)), oI 43 (.slice 1 (.t 42) (some (ci 1)) none none), oI 44 (.mv (.t 9)), oI 45 (.faddr 1 (.t 3)), oI 46 (.load (.one (.int .i64)) (.t 45)), oI 47 (.bin .sub .i64 (.t 46) (ci 1)), oI 48 (.slice 1 (.t 44) none (some (.t 47)) none), oI 49 (.copy 1 (.t 43) (.t 48))] [42, 43, 44, 45, 46, 47, 48, 49]) (.seq (.region [oI 50 (.mv (.t 9)), oI 51 (.iaddr 1 (.t 50) (ci 0)), pI (.store 1 (.t 51) (ci 0))] [50, 51]) (.region [oI 52 (.mv (.t 9)), oI 53 (.len (.t 52)), oI 54 (.mv (ci 0))] [52])))) cn
def cubkp2_1_b_3_u : ACode := gcubkp2_1_b_3_u cubkp2_1_b_3_u_5
def gcubkp2_1_b_3 (cn cu0 : ACode) : ACode := .seq (.block 1 cu0) cn
def cubkp2_1_b_3 : ACode := gcubkp2_1_b_3 cubkp2_1_b_3_4 cubkp2_1_b_3_u
def gcubkp2_1_b (cn : ACode) : ACode := .seq (.seq (.region [oI 32 (.mv (.t 10)), oI 33 (.cmp .geq .i64 (.t 32) (ci 0))] [32]) (.cond (.t 33) (.region [] [33]) (.seq (.region [] [7, 8, 10, 33]) (.exit 0)))) cn
def cubkp2_1_b : ACode := gcubkp2_1_b cubkp2_1_b_3
def cubkp2_1 : ACode := .seq (.block 0 (.loop cubkp2_1_b)) cubkp2_1_2
def gcubkp2 (cn : ACode) : ACode := .seq (.seq (.region [oI 3 (.box (.t 0)), oI 6 (.mv (ci 0))] [0, 6]) (.seq (.region [oI 14 (.mv (.t 1)), oI 15 (.faddr 0 (.t 3)), oJ 16 (.load (.one (.int .i64)) (.t 15)), oI 17 (.faddr 1 (.t 3)), oJ 18 (.load (.one (.int .i64)) (.t 17)), oJ 19 (.call (.f 170) [.t 14, .t 16, .t 18] (.one (.one .slice))), oI 20 (.mv (.t 2)), oI 21 (.faddr 0 (.t 3)), oJ 22 (.load (.one (.int .i64)) (.t 21)), oI 23 (.faddr 1 (.t 3)), oJ 24 (.load (.one (.int .i64)) (.t 23)), oI 25 (.call (.f 170) [.t 20, .t 22, .t 24] (.one (.one .slice))), oI 7 (.mv (.t 19)), oI 8 (.mv (.t 25))] [1, 2, 14, 15, 16, 17, 18, 19, 20, 21, 22, 23, 24, 25]) (.seq (.region [oI 26 (.faddr 1 (.t 3)), oI 27 (.load (.one (.int .i64)) (.t 26)), oI 28 (.mkslice 8 [.int .i64 0] (.t 27) (.t 27)), oI 9 (.mv (.t 28))] [26, 27, 28]) (.region [oI 29 (.faddr 1 (.t 3)), oI 30 (.load (.one (.int .i64)) (.t 29)), oI 31 (.bin .sub .i64 (.t 30) (ci 1)), oI 10 (.mv (.t 31))] [29, 30, 31])))) cn
def cubkp2 : ACode := gcubkp2 cubkp2_1
abbrev ubkp2t4 (R : Type) := Int → Int → Sl → Int → Int → AH → Option R
def ubkp2s4 (t0_0 t0_1 : Int) (t0_2 : Sl) (t1 t2 : Int) : List Value := .agg ⟨[.int .i64 t0_0, .int .i64 t0_1, .slice t0_2.a t0_2.l t0_2.c]⟩ :: vi t1 :: vi t2 :: un 94 []
def a_field_multiply : AFunc := ⟨97, cubkp2, [.tmp 6]⟩
theorem ok_field_multiply : okF Tryz.prog 148 a_field_multiply = true := by kernel_rfl
def ubkp2_1_2 {R : Type} (C : Callee) (fl k : Nat) (kr : ubkp2t0 R) : ubkp2t1 R := fun t3 t9 h => ldI .i64 h t3.block t3.off fun n1 => callF C fl fn.field_valueOf [.slice t9.a t9.l t9.c, .int .i64 n1] h fun v2 h3 => asInt .i64 v2 fun n4 => kr n4 h3
theorem ubkp2_1_2_e {R} (C fl k) (K : KF R) : (cp2 ubkp2s1 (ce C fl k cubkp2_1_2 K)) = ubkp2_1_2 C fl k (cp1 ubkp2s0 (K .ret)) := by kernel_rfl
def ubkp2_1_b_3_4 {R : Type} (C : Callee) (fl k : Nat) (kn : ubkp2t2 R) (e0 : ubkp2t1 R) : ubkp2t2 R := fun t3 t7 t8 t9 t10 h => kn t3 t7 t8 t9 (w64 (t10 - 1)) h
theorem ubkp2_1_b_3_4_e {R} (C fl k) (K : KF R) : (cp5 ubkp2s2 (ce C fl k cubkp2_1_b_3_4 K)) = ubkp2_1_b_3_4 C fl k (cp5 ubkp2s2 (K .normal)) (cp2 ubkp2s1 (K (.exit 0))) := by kernel_rfl
def ubkp2_1_b_3_u_5_b_6 {R : Type} (C : Callee) (fl k : Nat) (kn : ubkp2t3 R) (e2 : ubkp2t2 R) : ubkp2t3 R := fun t3 t7 t8 t9 t10 t11 t53 t54 h => kn t3 t7 t8 t9 t10 t11 t53 (w64 (t54 + 1)) h
theorem ubkp2_1_b_3_u_5_b_6_e {R} (C fl k) (K : KF R) : (cp8 ubkp2s3 (ce C fl k cubkp2_1_b_3_u_5_b_6 K)) = ubkp2_1_b_3_u_5_b_6 C fl k (cp8 ubkp2s3 (K .normal)) (cp5 ubkp2s2 (K (.exit 2))) := by kernel_rfl
def ubkp2_1_b_3_u_5_bF {R : Type} (C : Callee) (fl k : Nat) (kx : ubkp2t3 R)  (kn : ubkp2t3 R) (e2 : ubkp2t2 R) : ubkp2t3 R := fun t3 t7 t8 t9 t10 t11 t53 t54 h => if decide (t54 < t53) = true then ldI .i64 h t3.block (t3.off + 1) fun n5 => if decide (n5 > 1) = true then ldS h t3.block (t3.off + 2) fun s6 => idx 1 s6 t54 fun p7 => ldI .i64 h p7.block p7.off fun n8 => idx 1 t9 t54 fun p9 => ldI .i64 h p9.block p9.off fun n10 => ldI .i64 h t3.block t3.off fun n11 => idx 1 t8 t10 fun p12 => ldI .i64 h p12.block p12.off fun n13 => idx 1 t7 t54 fun p14 => ldI .i64 h p14.block p14.off fun n15 => ldI .i64 h t3.block t3.off fun n16 => binQ .rem .i64 (w64 (w64 (n10 + (w64 (w64 (n11 - t11) * n8))) + (w64 (n13 * n15)))) n16 fun n17 => idx 1 t9 t54 fun p18 => st fl h p18 [.int .i64 n17] fun h19 => kx t3 t7 t8 t9 t10 t11 t53 t54 h19 else idx 1 t9 t54 fun p20 => ldI .i64 h p20.block p20.off fun n21 => ldI .i64 h t3.block t3.off fun n22 => idx 1 t8 t10 fun p23 => ldI .i64 h p23.block p23.off fun n24 => idx 1 t7 t54 fun p25 => ldI .i64 h p25.block p25.off fun n26 => ldI .i64 h t3.block t3.off fun n27 => binQ .rem .i64 (w64 (w64 (n21 + (w64 (w64 (n22 - t11) * 0))) + (w64 (n24 * n26)))) n27 fun n28 => idx 1 t9 t54 fun p29 => st fl h p29 [.int .i64 n28] fun h30 => kx t3 t7 t8 t9 t10 t11 t53 t54 h30 else e2 t3 t7 t8 t9 t10 h
def ubkp2_1_b_3_u_5_b {R : Type} (C : Callee) (fl k : Nat) (kn : ubkp2t3 R) (e2 : ubkp2t2 R) : ubkp2t3 R := ubkp2_1_b_3_u_5_bF C fl k (ubkp2_1_b_3_u_5_b_6 C fl k kn e2)  kn e2
theorem ubkp2_1_b_3_u_5_b_g {R} (C fl k) (cn : ACode) (K : KF R) : (cp8 ubkp2s3 (ce C fl k (gcubkp2_1_b_3_u_5_b cn) K)) = ubkp2_1_b_3_u_5_bF C fl k (cp8 ubkp2s3 (ce C fl k cn K)) (cp8 ubkp2s3 (K .normal)) (cp5 ubkp2s2 (K (.exit 2))) := by kernel_rfl
theorem ubkp2_1_b_3_u_5_b_e {R} (C fl k) (K : KF R) : (cp8 ubkp2s3 (ce C fl k cubkp2_1_b_3_u_5_b K)) = ubkp2_1_b_3_u_5_b C fl k (cp8 ubkp2s3 (K .normal)) (cp5 ubkp2s2 (K (.exit 2))) := (ubkp2_1_b_3_u_5_b_g C fl k cubkp2_1_b_3_u_5_b_6 K).trans (congr1 (fun L0 => ubkp2_1_b_3_u_5_bF C fl k L0 (cp8 ubkp2s3 (K .normal)) (cp5 ubkp2s2 (K (.exit 2)))) (ubkp2_1_b_3_u_5_b_6_e C fl k K))
def ubkp2_1_b_3_u_5_l {R : Type} (C : Callee) (fl k : Nat) (kn : ubkp2t2 R) : Nat → ubkp2t3 R
  | 0 => fun _ _ _ _ _ _ _ _ _ => none
  | m + 1 => ubkp2_1_b_3_u_5_b C fl k (ubkp2_1_b_3_u_5_l C fl k kn m) kn
theorem ubkp2_1_b_3_u_5_l_p {R} (C fl k) (K : KF R) : ∀ m, (cp8 ubkp2s3 (loopK m (kstep C fl k cubkp2_1_b_3_u_5_b 2 K))) = ubkp2_1_b_3_u_5_l C fl k (cp5 ubkp2s2 (K .normal)) m
  | 0 => by kernel_rfl
  | m + 1 => (congr1 (fun g => (cp8 ubkp2s3 (g))) (loop_ce C fl k cubkp2_1_b_3_u_5_b 2 K m)).trans ((ubkp2_1_b_3_u_5_b_e C fl k _).trans (congr1 (fun L => ubkp2_1_b_3_u_5_b C fl k L (cp5 ubkp2s2 (K .normal))) (ubkp2_1_b_3_u_5_l_p C fl k K m)))
theorem ubkp2_1_b_3_u_5_l_e {R} (C fl k) (K : KF R) : (cp8 ubkp2s3 (ce C fl k (.block 2 (.loop cubkp2_1_b_3_u_5_b)) K)) = ubkp2_1_b_3_u_5_l C fl k (cp5 ubkp2s2 (K .normal)) k := (congr1 (fun g => (cp8 ubkp2s3 (g))) (ce_loop C fl k cubkp2_1_b_3_u_5_b 2 K)).trans (ubkp2_1_b_3_u_5_l_p C fl k K k)
def ubkp2_1_b_3_u_5 {R : Type} (C : Callee) (fl k : Nat) (kn : ubkp2t2 R) : ubkp2t3 R := ubkp2_1_b_3_u_5_l C fl k kn k
theorem ubkp2_1_b_3_u_5_e {R} (C fl k) (K : KF R) : (cp8 ubkp2s3 (ce C fl k cubkp2_1_b_3_u_5 K)) = ubkp2_1_b_3_u_5 C fl k (cp5 ubkp2s2 (K .normal)) := ubkp2_1_b_3_u_5_l_e C fl k K
def ubkp2_1_b_3_uF {R : Type} (C : Callee) (fl k : Nat) (kx : ubkp2t3 R)  (kn : ubkp2t2 R) : ubkp2t2 R := fun t3 t7 t8 t9 t10 h => ldI .i64 h t3.block (t3.off + 1) fun n31 => idx 1 t9 (w64 (n31 - 1)) fun p32 => ldI .i64 h p32.block p32.off fun n33 => sub 1 t9 (some 1) none none fun s34 => ldI .i64 h t3.block (t3.off + 1) fun n35 => sub 1 t9 none (some (w64 (n35 - 1))) none fun s36 => cpy fl 1 s34 s36 h fun n37 h38 => idx 1 t9 0 fun p39 => st fl h38 p39 [.int .i64 0] fun h40 => kx t3 t7 t8 t9 t10 n33 ((t9.l : Nat) : Int) 0 h40
def ubkp2_1_b_3_u {R : Type} (C : Callee) (fl k : Nat) (kn : ubkp2t2 R) : ubkp2t2 R := ubkp2_1_b_3_uF C fl k (ubkp2_1_b_3_u_5 C fl k kn)  kn
theorem ubkp2_1_b_3_u_g {R} (C fl k) (cn : ACode) (K : KF R) : (cp5 ubkp2s2 (ce C fl k (gcubkp2_1_b_3_u cn) K)) = ubkp2_1_b_3_uF C fl k (cp8 ubkp2s3 (ce C fl k cn K)) (cp5 ubkp2s2 (K .normal)) := by kernel_rfl
theorem ubkp2_1_b_3_u_e {R} (C fl k) (K : KF R) : (cp5 ubkp2s2 (ce C fl k cubkp2_1_b_3_u K)) = ubkp2_1_b_3_u C fl k (cp5 ubkp2s2 (K .normal)) := (ubkp2_1_b_3_u_g C fl k cubkp2_1_b_3_u_5 K).trans (congr1 (fun L0 => ubkp2_1_b_3_uF C fl k L0 (cp5 ubkp2s2 (K .normal))) (ubkp2_1_b_3_u_5_e C fl k K))
def ubkp2_1_b_3F {R : Type} (C : Callee) (fl k : Nat) (kx : ubkp2t2 R) (u0 : ubkp2t2 R) (kn : ubkp2t2 R) (e0 : ubkp2t1 R) : ubkp2t2 R := fun t3 t7 t8 t9 t10 h => u0 t3 t7 t8 t9 t10 h
def ubkp2_1_b_3 {R : Type} (C : Callee) (fl k : Nat) (kn : ubkp2t2 R) (e0 : ubkp2t1 R) : ubkp2t2 R := ubkp2_1_b_3F C fl k (ubkp2_1_b_3_4 C fl k kn e0) (ubkp2_1_b_3_u C fl k (ubkp2_1_b_3_4 C fl k kn e0)) kn e0
theorem ubkp2_1_b_3_g {R} (C fl k) (cn cu0 : ACode) (K : KF R) : (cp5 ubkp2s2 (ce C fl k (gcubkp2_1_b_3 cn cu0) K)) = ubkp2_1_b_3F C fl k (cp5 ubkp2s2 (ce C fl k cn K)) (cp5 ubkp2s2 (ce C fl k cu0 (kblk 1 (kseq C fl k cn K)))) (cp5 ubkp2s2 (K .normal)) (cp2 ubkp2s1 (K (.exit 0))) := by kernel_rfl
theorem ubkp2_1_b_3_e {R} (C fl k) (K : KF R) : (cp5 ubkp2s2 (ce C fl k cubkp2_1_b_3 K)) = ubkp2_1_b_3 C fl k (cp5 ubkp2s2 (K .normal)) (cp2 ubkp2s1 (K (.exit 0))) := (ubkp2_1_b_3_g C fl k cubkp2_1_b_3_4 cubkp2_1_b_3_u K).trans (congr2 (fun L0 L1 => ubkp2_1_b_3F C fl k L0 L1 (cp5 ubkp2s2 (K .normal)) (cp2 ubkp2s1 (K (.exit 0)))) (ubkp2_1_b_3_4_e C fl k K) ((ubkp2_1_b_3_u_e C fl k (kblk 1 (kseq C fl k cubkp2_1_b_3_4 K))).trans (congr1 (fun L0 => ubkp2_1_b_3_u C fl k L0) ((congr1 (fun g => (cp5 ubkp2s2 (g))) (blk_n C fl k cubkp2_1_b_3_4 1 K)).trans (ubkp2_1_b_3_4_e C fl k K)))))
def ubkp2_1_bF {R : Type} (C : Callee) (fl k : Nat) (kx : ubkp2t2 R)  (kn : ubkp2t2 R) (e0 : ubkp2t1 R) : ubkp2t2 R := fun t3 t7 t8 t9 t10 h => if decide (t10 ≥ 0) = true then kx t3 t7 t8 t9 t10 h else e0 t3 t9 h
def ubkp2_1_b {R : Type} (C : Callee) (fl k : Nat) (kn : ubkp2t2 R) (e0 : ubkp2t1 R) : ubkp2t2 R := ubkp2_1_bF C fl k (ubkp2_1_b_3 C fl k kn e0)  kn e0
theorem ubkp2_1_b_g {R} (C fl k) (cn : ACode) (K : KF R) : (cp5 ubkp2s2 (ce C fl k (gcubkp2_1_b cn) K)) = ubkp2_1_bF C fl k (cp5 ubkp2s2 (ce C fl k cn K)) (cp5 ubkp2s2 (K .normal)) (cp2 ubkp2s1 (K (.exit 0))) := by kernel_rfl
theorem ubkp2_1_b_e {R} (C fl k) (K : KF R) : (cp5 ubkp2s2 (ce C fl k cubkp2_1_b K)) = ubkp2_1_b C fl k (cp5 ubkp2s2 (K .normal)) (cp2 ubkp2s1 (K (.exit 0))) := (ubkp2_1_b_g C fl k cubkp2_1_b_3 K).trans (congr1 (fun L0 => ubkp2_1_bF C fl k L0 (cp5 ubkp2s2 (K .normal)) (cp2 ubkp2s1 (K (.exit 0)))) (ubkp2_1_b_3_e C fl k K))
def ubkp2_1_l {R : Type} (C : Callee) (fl k : Nat) (kn : ubkp2t1 R) : Nat → ubkp2t2 R
  | 0 => fun _ _ _ _ _ _ => none
  | m + 1 => ubkp2_1_b C fl k (ubkp2_1_l C fl k kn m) kn
theorem ubkp2_1_l_p {R} (C fl k) (K : KF R) : ∀ m, (cp5 ubkp2s2 (loopK m (kstep C fl k cubkp2_1_b 0 K))) = ubkp2_1_l C fl k (cp2 ubkp2s1 (K .normal)) m
  | 0 => by kernel_rfl
  | m + 1 => (congr1 (fun g => (cp5 ubkp2s2 (g))) (loop_ce C fl k cubkp2_1_b 0 K m)).trans ((ubkp2_1_b_e C fl k _).trans (congr1 (fun L => ubkp2_1_b C fl k L (cp2 ubkp2s1 (K .normal))) (ubkp2_1_l_p C fl k K m)))
theorem ubkp2_1_l_e {R} (C fl k) (K : KF R) : (cp5 ubkp2s2 (ce C fl k (.block 0 (.loop cubkp2_1_b)) K)) = ubkp2_1_l C fl k (cp2 ubkp2s1 (K .normal)) k := (congr1 (fun g => (cp5 ubkp2s2 (g))) (ce_loop C fl k cubkp2_1_b 0 K)).trans (ubkp2_1_l_p C fl k K k)
def ubkp2_1 {R : Type} (C : Callee) (fl k : Nat) (kr : ubkp2t0 R) : ubkp2t2 R := ubkp2_1_l C fl k (ubkp2_1_2 C fl k kr) k
theorem ubkp2_1_e {R} (C fl k) (K : KF R) : (cp5 ubkp2s2 (ce C fl k cubkp2_1 K)) = ubkp2_1 C fl k (cp1 ubkp2s0 (K .ret)) := ((congr1 (fun g => (cp5 ubkp2s2 (g))) (ce_seq C fl k _ _ K)).trans (ubkp2_1_l_e C fl k (kseq C fl k cubkp2_1_2 K))).trans (congr1 (fun L => ubkp2_1_l C fl k L k) ((congr1 (fun g => (cp2 ubkp2s1 (g))) (seq_n C fl k cubkp2_1_2 K)).trans (ubkp2_1_2_e C fl k K)))
def ubkp2F {R : Type} (C : Callee) (fl k : Nat) (kx : ubkp2t2 R)  (kr : ubkp2t0 R) : ubkp2t4 R := fun t0_0 t0_1 t0_2 t1 t2 h => alc h [.int .i64 t0_0, .int .i64 t0_1, .slice t0_2.a t0_2.l t0_2.c] fun b41 h42 => ldI .i64 h42 b41 0 fun n43 => ldI .i64 h42 b41 1 fun n44 => callF C h42.next fn.field_digitsOf [.int .i64 t1, .int .i64 n43, .int .i64 n44] h42 fun v45 h46 => asSl v45 fun s47 => ldI .i64 h46 b41 0 fun n48 => ldI .i64 h46 b41 1 fun n49 => callF C fl fn.field_digitsOf [.int .i64 t2, .int .i64 n48, .int .i64 n49] h46 fun v50 h51 => asSl v50 fun s52 => ldI .i64 h51 b41 1 fun n53 => mkSl 8 [.int .i64 0] n53 n53 h51 fun s54 h55 => ldI .i64 h55 b41 1 fun n56 => kx ⟨b41, 0, none⟩ s47 s52 s54 (w64 (n56 - 1)) h55
def ubkp2 {R : Type} (C : Callee) (fl k : Nat) (kr : ubkp2t0 R) : ubkp2t4 R := ubkp2F C fl k (ubkp2_1 C fl k kr)  kr
theorem ubkp2_g {R} (C fl k) (cn : ACode) (K : KF R) : (cp5 ubkp2s4 (ce C fl k (gcubkp2 cn) K)) = ubkp2F C fl k (cp5 ubkp2s2 (ce C fl k cn K)) (cp1 ubkp2s0 (K .ret)) := by kernel_rfl
theorem ubkp2_e {R} (C fl k) (K : KF R) : (cp5 ubkp2s4 (ce C fl k cubkp2 K)) = ubkp2 C fl k (cp1 ubkp2s0 (K .ret)) := (ubkp2_g C fl k cubkp2_1 K).trans (congr1 (fun L0 => ubkp2F C fl k L0 (cp1 ubkp2s0 (K .ret))) (ubkp2_1_e C fl k K))
def field_multiply (C : Callee) (fl k : Nat) (p0_0 p0_1 : Int) (p0_2 : Sl) (p1 p2 : Int) (h : AH) : Option (Value × AH) := ubkp2 C fl k (fun y6 q => some (.int .i64 y6, q)) p0_0 p0_1 p0_2 p1 p2 h
theorem field_multiply_run (C fl k) (p0_0 p0_1 : Int) (p0_2 : Sl) (p1 p2 : Int) (h) : runF C fl k a_field_multiply [.agg ⟨[.int .i64 p0_0, .int .i64 p0_1, .slice p0_2.a p0_2.l p0_2.c]⟩, .int .i64 p1, .int .i64 p2] h = field_multiply C fl k p0_0 p0_1 p0_2 p1 p2 h :=
  (runF_ce C fl k a_field_multiply [.agg ⟨[.int .i64 p0_0, .int .i64 p0_1, .slice p0_2.a p0_2.l p0_2.c]⟩, .int .i64 p1, .int .i64 p2] h cubkp2 (ubkp2s4 p0_0 p0_1 p0_2 p1 p2) rfl (by kernel_rfl)).trans ((cp5_ap ubkp2s4 (ce C fl k cubkp2 (finalK a_field_multiply.results)) p0_0 p0_1 p0_2 p1 p2 h).symm.trans ((congrFun (congrFun (congrFun (congrFun (congrFun (congrFun (ubkp2_e C fl k (finalK a_field_multiply.results)) p0_0) p0_1) p0_2) p1) p2) h).trans (show ubkp2 C fl k (cp1 ubkp2s0 ((finalK a_field_multiply.results) .ret)) p0_0 p0_1 p0_2 p1 p2 h = field_multiply C fl k p0_0 p0_1 p0_2 p1 p2 h by kernel_rfl)))
def d_field_multiply (C : Callee) (fl k : Nat) (args : List Value) (h : AH) : Option (Value × AH) := match args with
  | [.agg ⟨[.int .i64 n1, .int .i64 n2, .slice n3a n3l n3c]⟩, .int .i64 n4, .int .i64 n5] => field_multiply C fl k n1 n2 ⟨n3a, n3l, n3c⟩ n4 n5 h
  | _ => none
theorem d_field_multiply_run {C : Callee} {fl k : Nat} {args : List Value} {h : AH} {r : Value × AH} (e : d_field_multiply C fl k args h = some r) : runF C fl k a_field_multiply args h = some r := by
  unfold d_field_multiply at e
  split at e
  · rename_i n1 n2 n3a n3l n3c n4 n5; exact (field_multiply_run C fl k n1 n2 ⟨n3a, n3l, n3c⟩ n4 n5 h).trans e
  · cases e
abbrev uul4tt0 (R : Type) := Int → AH → Option R
def uul4ts0 (t6 : Int) : List Value := un 6 (vi t6 :: un 70 [])
def cuul4t_1_2 : ACode := .seq (.region [oI 76 (.mv (.t 7)), oI 6 (.mv (.t 76))] [7, 76]) (.ret)
abbrev uul4tt1 (R : Type) := Int → AH → Option R
def uul4ts1 (t7 : Int) : List Value := un 7 (vi t7 :: un 69 [])
abbrev uul4tt2 (R : Type) := OA → Int → Int → Int → Int → AH → Option R
def uul4ts2 (t0 : OA) (t1 t2 t7 t8 : Int) : List Value := vn t0 :: vi t1 :: vi t2 :: un 4 (vi t7 :: vi t8 :: un 68 [])
def cuul4t_1_b_3 : ACode := .block 1 (.seq (.region [oI 30 (.mv (.t 7)), oI 31 (.mv (.t 1)), oI 32 (.mv (.t 0)), oI 33 (.nilc (.t 32)), oI 34 (.faddr 0 (.t 33)), oI 35 (.faddr 0 (.t 34)), oJ 36 (.load (.one (.int .i64)) (.t 35)), oI 37 (.bin .rem .i64 (.t 31) (.t 36)), oI 38 (.mv (.t 2)), oI 39 (.mv (.t 0)), oI 40 (.nilc (.t 39)), oI 41 (.faddr 0 (.t 40)), oI 42 (.faddr 0 (.t 41)), oJ 43 (.load (.one (.int .i64)) (.t 42)), oI 44 (.bin .rem .i64 (.t 38) (.t 43)), oI 45 (.bin .add .i64 (.t 37) (.t 44)), oI 46 (.mv (.t 0)), oI 47 (.nilc (.t 46)), oI 48 (.faddr 0 (.t 47)), oI 49 (.faddr 0 (.t 48)), oJ 50 (.load (.one (.int .i64)) (.t 49)), oI 51 (.bin .rem .i64 (.t 45) (.t 50)), oI 52 (.mv (.t 8)), oI 53 (.bin .mul .i64 (.t 51) (.t 52)), oI 54 (.bin .add .i64 (.t 30) (.t 53)), oI 7 (.mv (.t 54))] [30, 31, 32, 33, 34, 35, 36, 37, 38, 39, 40, 41, 42, 43, 44, 45, 46, 47, 48, 49, 50, 51, 52, 53, 54]) (.seq (.region [oI 55 (.mv (.t 8)), oI 56 (.mv (.t 0)), oI 57 (.nilc (.t 56)), oI 58 (.faddr 0 (.t 57)), oI 59 (.faddr 0 (.t 58)), oI 60 (.load (.one (.int .i64)) (.t 59)), oI 61 (.bin .mul .i64 (.t 55) (.t 60)), oI 8 (.mv (.t 61))] [55, 56, 57, 58, 59, 60, 61]) (.seq (.region [oI 62 (.mv (.t 1)), oI 63 (.mv (.t 0)), oI 64 (.nilc (.t 63)), oI 65 (.faddr 0 (.t 64)), oI 66 (.faddr 0 (.t 65)), oI 67 (.load (.one (.int .i64)) (.t 66)), oI 68 (.bin .quo .i64 (.t 62) (.t 67)), oI 1 (.mv (.t 68))] [62, 63, 64, 65, 66, 67, 68]) (.region [oI 69 (.mv (.t 2)), oI 70 (.mv (.t 0)), oI 71 (.nilc (.t 70)), oI 72 (.faddr 0 (.t 71)), oI 73 (.faddr 0 (.t 72)), oI 74 (.load (.one (.int .i64)) (.t 73)), oI 75 (.bin .quo .i64 (.t 69) (.t 74)), oI 2 (.mv (.t 75))] [69, 70, 71, 72, 73, 74, 75]))))
def gcuul4t_1_b (cn : ACode) : ACode := .seq (.seq (.region [oI 24 (.mv (.t 1)), oI 25 (.cmp .gtr .i64 (.t 24) (ci 0)), oI 26 (.mv (.t 25)), .grp 26 false [qI 27 (.mv (.t 2)), qI 28 (.cmp .gtr .i64 (.t 27) (ci 0))], oI 29 (.pick (.t 26) (.c (.bool true)) (.t 28))] [24, 25, 26, 27, 28]) (.cond (.t 29) (.region [] [29]) (.seq (.region [] [0, 1, 2, 8, 29]) (.exit 0)))) cn
def cuul4t_1_b : ACode := gcuul4t_1_b cuul4t_1_b_3
def cuul4t_1 : ACode := .seq (.block 0 (.loop cuul4t_1_b)) cuul4t_1_2
def gcuul4t (cn : ACode) : ACode := .seq (.seq (.region [oI 6 (.mv (ci 0))] [6]) (.seq (.region [oI 9 (.mv (.t 0)), oI 10 (.mv (.t 1)), oI 11 (.call (.f 144) [.t 9, .t 10] (.one (.one (.int .i64)))), oI 12 (.mv (.t 0)), oI 13 (.mv (.t 2)), oI 14 (.call (.f 144) [.t 12, .t 13] (.one (.one (.int .i64)))), oI 1 (.mv (.t 11)), oI 2 (.mv (.t 14))] [9, 10, 11, 12, 13, 14]) (.seq (.region [oI 15 (.mv (.t 0)), oI 16 (.nilc (.t 15)), oI 17 (.faddr 0 (.t 16)), oI 18 (.faddr 0 (.t 17)), oI 19 (.load (.one (.int .i64)) (.t 18)), oI 20 (.cmp .eql .i64 (.t 19) (ci 2))] [15, 16, 17, 18, 19]) (.seq (.cond (.t 20) (.seq (.region [oI 21 (.mv (.t 1)), oI 22 (.mv (.t 2)), oI 23 (.bin .xor .i64 (.t 21) (.t 22)), oI 6 (.mv (.t 23))] [0, 1, 2, 20, 21, 22, 23]) (.ret)) (.region [] [20])) (.region [oI 7 (.mv (ci 0)), oI 8 (.mv (ci 1))] []))))) cn
def cuul4t : ACode := gcuul4t cuul4t_1
abbrev uul4tt3 (R : Type) := OA → Int → Int → AH → Option R
def uul4ts3 (t0 : OA) (t1 t2 : Int) : List Value := vn t0 :: vi t1 :: vi t2 :: un 74 []
def a_field_GF_Add : AFunc := ⟨77, cuul4t, [.tmp 6]⟩
theorem ok_field_GF_Add : okF Tryz.prog 149 a_field_GF_Add = true := by kernel_rfl
def uul4t_1_2 {R : Type} (C : Callee) (fl k : Nat) (kr : uul4tt0 R) : uul4tt1 R := fun t7 h => kr t7 h
theorem uul4t_1_2_e {R} (C fl k) (K : KF R) : (cp1 uul4ts1 (ce C fl k cuul4t_1_2 K)) = uul4t_1_2 C fl k (cp1 uul4ts0 (K .ret)) := by kernel_rfl
def uul4t_1_b_3 {R : Type} (C : Callee) (fl k : Nat) (kn : uul4tt2 R) (e0 : uul4tt1 R) : uul4tt2 R := fun t0 t1 t2 t7 t8 h => asPtr (.pointer t0) fun p1 => ldI .i64 h p1.block p1.off fun n2 => binQ .rem .i64 t1 n2 fun n3 => asPtr (.pointer t0) fun p4 => ldI .i64 h p4.block p4.off fun n5 => binQ .rem .i64 t2 n5 fun n6 => asPtr (.pointer t0) fun p7 => ldI .i64 h p7.block p7.off fun n8 => binQ .rem .i64 (w64 (n3 + n6)) n8 fun n9 => asPtr (.pointer t0) fun p10 => ldI .i64 h p10.block p10.off fun n11 => asPtr (.pointer t0) fun p12 => ldI .i64 h p12.block p12.off fun n13 => binQ .quo .i64 t1 n13 fun n14 => asPtr (.pointer t0) fun p15 => ldI .i64 h p15.block p15.off fun n16 => binQ .quo .i64 t2 n16 fun n17 => kn t0 n14 n17 (w64 (t7 + (w64 (n9 * t8)))) (w64 (t8 * n11)) h
theorem uul4t_1_b_3_e {R} (C fl k) (K : KF R) : (cp5 uul4ts2 (ce C fl k cuul4t_1_b_3 K)) = uul4t_1_b_3 C fl k (cp5 uul4ts2 (K .normal)) (cp1 uul4ts1 (K (.exit 0))) := by kernel_rfl
def uul4t_1_bF {R : Type} (C : Callee) (fl k : Nat) (kx : uul4tt2 R)  (kn : uul4tt2 R) (e0 : uul4tt1 R) : uul4tt2 R := fun t0 t1 t2 t7 t8 h => if decide (t1 > 0) = false then if decide (t2 > 0) = true then kx t0 t1 t2 t7 t8 h else e0 t7 h else kx t0 t1 t2 t7 t8 h
def uul4t_1_b {R : Type} (C : Callee) (fl k : Nat) (kn : uul4tt2 R) (e0 : uul4tt1 R) : uul4tt2 R := uul4t_1_bF C fl k (uul4t_1_b_3 C fl k kn e0)  kn e0
theorem uul4t_1_b_g {R} (C fl k) (cn : ACode) (K : KF R) : (cp5 uul4ts2 (ce C fl k (gcuul4t_1_b cn) K)) = uul4t_1_bF C fl k (cp5 uul4ts2 (ce C fl k cn K)) (cp5 uul4ts2 (K .normal)) (cp1 uul4ts1 (K (.exit 0))) := by kernel_rfl
theorem uul4t_1_b_e {R} (C fl k) (K : KF R) : (cp5 uul4ts2 (ce C fl k cuul4t_1_b K)) = uul4t_1_b C fl k (cp5 uul4ts2 (K .normal)) (cp1 uul4ts1 (K (.exit 0))) := (uul4t_1_b_g C fl k cuul4t_1_b_3 K).trans (congr1 (fun L0 => uul4t_1_bF C fl k L0 (cp5 uul4ts2 (K .normal)) (cp1 uul4ts1 (K (.exit 0)))) (uul4t_1_b_3_e C fl k K))
def uul4t_1_l {R : Type} (C : Callee) (fl k : Nat) (kn : uul4tt1 R) : Nat → uul4tt2 R
  | 0 => fun _ _ _ _ _ _ => none
  | m + 1 => uul4t_1_b C fl k (uul4t_1_l C fl k kn m) kn
theorem uul4t_1_l_p {R} (C fl k) (K : KF R) : ∀ m, (cp5 uul4ts2 (loopK m (kstep C fl k cuul4t_1_b 0 K))) = uul4t_1_l C fl k (cp1 uul4ts1 (K .normal)) m
  | 0 => by kernel_rfl
  | m + 1 => (congr1 (fun g => (cp5 uul4ts2 (g))) (loop_ce C fl k cuul4t_1_b 0 K m)).trans ((uul4t_1_b_e C fl k _).trans (congr1 (fun L => uul4t_1_b C fl k L (cp1 uul4ts1 (K .normal))) (uul4t_1_l_p C fl k K m)))
theorem uul4t_1_l_e {R} (C fl k) (K : KF R) : (cp5 uul4ts2 (ce C fl k (.block 0 (.loop cuul4t_1_b)) K)) = uul4t_1_l C fl k (cp1 uul4ts1 (K .normal)) k := (congr1 (fun g => (cp5 uul4ts2 (g))) (ce_loop C fl k cuul4t_1_b 0 K)).trans (uul4t_1_l_p C fl k K k)
def uul4t_1 {R : Type} (C : Callee) (fl k : Nat) (kr : uul4tt0 R) : uul4tt2 R := uul4t_1_l C fl k (uul4t_1_2 C fl k kr) k
theorem uul4t_1_e {R} (C fl k) (K : KF R) : (cp5 uul4ts2 (ce C fl k cuul4t_1 K)) = uul4t_1 C fl k (cp1 uul4ts0 (K .ret)) := ((congr1 (fun g => (cp5 uul4ts2 (g))) (ce_seq C fl k _ _ K)).trans (uul4t_1_l_e C fl k (kseq C fl k cuul4t_1_2 K))).trans (congr1 (fun L => uul4t_1_l C fl k L k) ((congr1 (fun g => (cp1 uul4ts1 (g))) (seq_n C fl k cuul4t_1_2 K)).trans (uul4t_1_2_e C fl k K)))
def uul4tF {R : Type} (C : Callee) (fl k : Nat) (kx : uul4tt2 R)  (kr : uul4tt0 R) : uul4tt3 R := fun t0 t1 t2 h => callF C fl fn.field_GF_in [.pointer t0, .int .i64 t1] h fun v18 h19 => asInt .i64 v18 fun n20 => callF C fl fn.field_GF_in [.pointer t0, .int .i64 t2] h19 fun v21 h22 => asInt .i64 v21 fun n23 => asPtr (.pointer t0) fun p24 => ldI .i64 h22 p24.block p24.off fun n25 => if (n25 == 2) = true then binQ .xor .i64 n20 n23 fun n26 => kr n26 h22 else kx t0 n20 n23 0 1 h22
def uul4t {R : Type} (C : Callee) (fl k : Nat) (kr : uul4tt0 R) : uul4tt3 R := uul4tF C fl k (uul4t_1 C fl k kr)  kr
theorem uul4t_g {R} (C fl k) (cn : ACode) (K : KF R) : (cp3 uul4ts3 (ce C fl k (gcuul4t cn) K)) = uul4tF C fl k (cp5 uul4ts2 (ce C fl k cn K)) (cp1 uul4ts0 (K .ret)) := by kernel_rfl
theorem uul4t_e {R} (C fl k) (K : KF R) : (cp3 uul4ts3 (ce C fl k cuul4t K)) = uul4t C fl k (cp1 uul4ts0 (K .ret)) := (uul4t_g C fl k cuul4t_1 K).trans (congr1 (fun L0 => uul4tF C fl k L0 (cp1 uul4ts0 (K .ret))) (uul4t_1_e C fl k K))
def field_GF_Add (C : Callee) (fl k : Nat) (p0 : OA) (p1 p2 : Int) (h : AH) : Option (Value × AH) := uul4t C fl k (fun y6 q => some (.int .i64 y6, q)) p0 p1 p2 h
theorem field_GF_Add_run (C fl k) (p0 : OA) (p1 p2 : Int) (h) : runF C fl k a_field_GF_Add [.pointer p0, .int .i64 p1, .int .i64 p2] h = field_GF_Add C fl k p0 p1 p2 h :=
  (runF_ce C fl k a_field_GF_Add [.pointer p0, .int .i64 p1, .int .i64 p2] h cuul4t (uul4ts3 p0 p1 p2) rfl (by kernel_rfl)).trans ((cp3_ap uul4ts3 (ce C fl k cuul4t (finalK a_field_GF_Add.results)) p0 p1 p2 h).symm.trans ((congrFun (congrFun (congrFun (congrFun (uul4t_e C fl k (finalK a_field_GF_Add.results)) p0) p1) p2) h).trans (show uul4t C fl k (cp1 uul4ts0 ((finalK a_field_GF_Add.results) .ret)) p0 p1 p2 h = field_GF_Add C fl k p0 p1 p2 h by kernel_rfl)))
def d_field_GF_Add (C : Callee) (fl k : Nat) (args : List Value) (h : AH) : Option (Value × AH) := match args with
  | [.pointer n0, .int .i64 n1, .int .i64 n2] => field_GF_Add C fl k n0 n1 n2 h
  | _ => none
theorem d_field_GF_Add_run {C : Callee} {fl k : Nat} {args : List Value} {h : AH} {r : Value × AH} (e : d_field_GF_Add C fl k args h = some r) : runF C fl k a_field_GF_Add args h = some r := by
  unfold d_field_GF_Add at e
  split at e
  · rename_i n0 n1 n2; exact (field_GF_Add_run C fl k n0 n1 n2 h).trans e
  · cases e
abbrev u3al5t0 (R : Type) := Bool → AH → Option R
def u3al5s0 (t2 : Bool) : List Value := un 2 (.bool t2 :: un 3 [])
def cu3al5 : ACode := .seq (.region [oI 2 (.mv (.c (.bool false)))] [2]) (.seq (.region [oI 3 (.mv (.t 0)), oI 4 (.mv (.t 0)), oI 5 (.cmp .neq .i64 (.t 3) (.t 4)), oI 2 (.mv (.t 5))] [0, 3, 4, 5]) (.ret))
abbrev u3al5t1 (R : Type) := Int → AH → Option R
def u3al5s1 (t0 : Int) : List Value := vi t0 :: un 5 []
def a_cmp_isNaN : AFunc := ⟨6, cu3al5, [.tmp 2]⟩
theorem ok_cmp_isNaN : okF Tryz.prog 151 a_cmp_isNaN = true := by kernel_rfl
def u3al5 {R : Type} (C : Callee) (fl k : Nat) (kr : u3al5t0 R) : u3al5t1 R := fun t0 h => kr (t0 != t0) h
theorem u3al5_e {R} (C fl k) (K : KF R) : (cp1 u3al5s1 (ce C fl k cu3al5 K)) = u3al5 C fl k (cp1 u3al5s0 (K .ret)) := by kernel_rfl
def cmp_isNaN (C : Callee) (fl k : Nat) (p0 : Int) (h : AH) : Option (Value × AH) := u3al5 C fl k (fun y2 q => some (.bool y2, q)) p0 h
theorem cmp_isNaN_run (C fl k) (p0 : Int) (h) : runF C fl k a_cmp_isNaN [.int .i64 p0] h = cmp_isNaN C fl k p0 h :=
  (runF_ce C fl k a_cmp_isNaN [.int .i64 p0] h cu3al5 (u3al5s1 p0) rfl (by kernel_rfl)).trans ((cp1_ap u3al5s1 (ce C fl k cu3al5 (finalK a_cmp_isNaN.results)) p0 h).symm.trans ((congrFun (congrFun (u3al5_e C fl k (finalK a_cmp_isNaN.results)) p0) h).trans (show u3al5 C fl k (cp1 u3al5s0 ((finalK a_cmp_isNaN.results) .ret)) p0 h = cmp_isNaN C fl k p0 h by kernel_rfl)))
def d_cmp_isNaN (C : Callee) (fl k : Nat) (args : List Value) (h : AH) : Option (Value × AH) := match args with
  | [.int .i64 n0] => cmp_isNaN C fl k n0 h
  | _ => none
theorem d_cmp_isNaN_run {C : Callee} {fl k : Nat} {args : List Value} {h : AH} {r : Value × AH} (e : d_cmp_isNaN C fl k args h = some r) : runF C fl k a_cmp_isNaN args h = some r := by
  unfold d_cmp_isNaN at e
  split at e
  · rename_i n0; exact (cmp_isNaN_run C fl k n0 h).trans e
  · cases e
abbrev uf6eht0 (R : Type) := Sl → AH → Option R
def uf6ehs0 (t6 : Sl) : List Value := un 6 (t6.v :: un 31 [])
def cuf6eh_1_2 : ACode := .seq (.region [oI 37 (.mv (.t 8)), oI 6 (.mv (.t 37))] [8, 37]) (.ret)
abbrev uf6eht1 (R : Type) := Sl → AH → Option R
def uf6ehs1 (t8 : Sl) : List Value := un 8 (t8.v :: un 29 [])
abbrev uf6eht2 (R : Type) := OA → Int → OA → Sl → Sl → Int → Int → AH → Option R
def uf6ehs2 (t0 : OA) (t2 : Int) (t7 : OA) (t8 t17 : Sl) (t18 t19 : Int) : List Value := vn t0 :: un 1 (vi t2 :: un 4 (vn t7 :: t8.v :: un 8 (t17.v :: vi t18 :: vi t19 :: un 18 [])))
def cuf6eh_1_b_3 : ACode := .region [oI 36 (.bin .add .i64 (.t 19) (ci 1)), oI 19 (.mv (.t 36))] [36]
def gcuf6eh_1_b (cn : ACode) : ACode := .seq (.seq (.region [oI 20 (.cmp .lss .i64 (.t 19) (.t 18))] []) (.seq (.cond (.t 20) (.region [] [20]) (.seq (.region [] [0, 2, 7, 17, 18, 19, 20]) (.exit 0))) (.block 1 (.seq (.region [oI 21 (.iaddr 1 (.t 17) (.t 19)), oI 22 (.load (.one (.int .i64)) (.t 21)), oI 10 (.mv (.t 22))] [21, 22]) (.seq (.seq (.region [oI 23 (.mv (.t 8)), oI 24 (.len (.t 23)), oI 25 (.mv (.t 2)), oI 26 (.cmp .eql .i64 (.t 24) (.t 25))] [23, 24, 25]) (.cond (.t 26) (.seq (.region [] [0, 2, 7, 10, 17, 18, 19, 26]) (.exit 0)) (.region [] [26]))) (.seq (.region [oI 27 (.mv (.t 7)), oI 28 (.mv (.t 0)), oI 29 (.mv (.t 10)), oI 30 (.call (.f 176) [.t 28, .t 29] (.one (.one .slice))), oI 31 (.call (.f 175) [.t 27, .t 30] (.one (.one .bool)))] [27, 28, 29, 30]) (.cond (.t 31) (.region [oI 32 (.mv (.t 8)), oI 33 (.mv (.t 10)), oI 34 (.bslice 1 [.int .i64 0] [(0, 1, .t 33)]), oI 35 (.append 1 8 (.t 32) (.t 34)), oI 8 (.mv (.t 35))] [10, 31, 32, 33, 34, 35]) (.region [] [10, 31])))))))) cn
def cuf6eh_1_b : ACode := gcuf6eh_1_b cuf6eh_1_b_3
def cuf6eh_1 : ACode := .seq (.block 0 (.loop cuf6eh_1_b)) cuf6eh_1_2
def gcuf6eh (cn : ACode) : ACode := .seq (.seq (.region [oI 6 (.mv (.c (.slice none 0 0)))] [6]) (.seq (.region [oI 11 (.mv (.t 0)), oI 12 (.nilc (.t 11)), oI 13 (.faddr 0 (.t 12)), oI 14 (.load (.one .nptr) (.t 13)), oI 15 (.build [.pointer none, .slice none 0 0, .slice none 0 0] [(0, 1, .t 14)]), oI 16 (.box (.t 15)), oI 7 (.mv (.t 16))] [11, 12, 13, 14, 15, 16]) (.seq (.region [oI 8 (.mv (.c (.slice none 0 0)))] []) (.region [oI 17 (.mv (.t 1)), oI 18 (.len (.t 17)), oI 19 (.mv (ci 0))] [1])))) cn
def cuf6eh : ACode := gcuf6eh cuf6eh_1
abbrev uf6eht3 (R : Type) := OA → Sl → Int → AH → Option R
def uf6ehs3 (t0 : OA) (t1 : Sl) (t2 : Int) : List Value := vn t0 :: t1.v :: vi t2 :: un 35 []
def a_exclusion_proof_greedy : AFunc := ⟨38, cuf6eh, [.tmp 6]⟩
theorem ok_exclusion_proof_greedy : okF Tryz.prog 158 a_exclusion_proof_greedy = true := by kernel_rfl
def uf6eh_1_2 {R : Type} (C : Callee) (fl k : Nat) (kr : uf6eht0 R) : uf6eht1 R := fun t8 h => kr t8 h
theorem uf6eh_1_2_e {R} (C fl k) (K : KF R) : (cp1 uf6ehs1 (ce C fl k cuf6eh_1_2 K)) = uf6eh_1_2 C fl k (cp1 uf6ehs0 (K .ret)) := by kernel_rfl
def uf6eh_1_b_3 {R : Type} (C : Callee) (fl k : Nat) (kn : uf6eht2 R) (e0 : uf6eht1 R) : uf6eht2 R := fun t0 t2 t7 t8 t17 t18 t19 h => kn t0 t2 t7 t8 t17 t18 (w64 (t19 + 1)) h
theorem uf6eh_1_b_3_e {R} (C fl k) (K : KF R) : (cp7 uf6ehs2 (ce C fl k cuf6eh_1_b_3 K)) = uf6eh_1_b_3 C fl k (cp7 uf6ehs2 (K .normal)) (cp1 uf6ehs1 (K (.exit 0))) := by kernel_rfl
def uf6eh_1_bF {R : Type} (C : Callee) (fl k : Nat) (kx : uf6eht2 R)  (kn : uf6eht2 R) (e0 : uf6eht1 R) : uf6eht2 R := fun t0 t2 t7 t8 t17 t18 t19 h => if decide (t19 < t18) = true then idx 1 t17 t19 fun p1 => ldI .i64 h p1.block p1.off fun n2 => if (((t8.l : Nat) : Int) == t2) = true then e0 t8 h else callF C fl fn.exclusion_proof_column [.pointer t0, .int .i64 n2] h fun v3 h4 => asSl v3 fun s5 => callF C fl fn.exclusion_basis_add [.pointer t7, .slice s5.a s5.l s5.c] h4 fun v6 h7 => asBool v6 fun b8 => if b8 = true then alc h7 [.int .i64 n2] fun b9 h10 => apnd fl 1 8 t8 ⟨(some ⟨b9, 0, none⟩), 1, 1⟩ h10 fun s11 h12 => kx t0 t2 t7 s11 t17 t18 t19 h12 else kx t0 t2 t7 t8 t17 t18 t19 h7 else e0 t8 h
def uf6eh_1_b {R : Type} (C : Callee) (fl k : Nat) (kn : uf6eht2 R) (e0 : uf6eht1 R) : uf6eht2 R := uf6eh_1_bF C fl k (uf6eh_1_b_3 C fl k kn e0)  kn e0
theorem uf6eh_1_b_g {R} (C fl k) (cn : ACode) (K : KF R) : (cp7 uf6ehs2 (ce C fl k (gcuf6eh_1_b cn) K)) = uf6eh_1_bF C fl k (cp7 uf6ehs2 (ce C fl k cn K)) (cp7 uf6ehs2 (K .normal)) (cp1 uf6ehs1 (K (.exit 0))) := by kernel_rfl
theorem uf6eh_1_b_e {R} (C fl k) (K : KF R) : (cp7 uf6ehs2 (ce C fl k cuf6eh_1_b K)) = uf6eh_1_b C fl k (cp7 uf6ehs2 (K .normal)) (cp1 uf6ehs1 (K (.exit 0))) := (uf6eh_1_b_g C fl k cuf6eh_1_b_3 K).trans (congr1 (fun L0 => uf6eh_1_bF C fl k L0 (cp7 uf6ehs2 (K .normal)) (cp1 uf6ehs1 (K (.exit 0)))) (uf6eh_1_b_3_e C fl k K))
def uf6eh_1_l {R : Type} (C : Callee) (fl k : Nat) (kn : uf6eht1 R) : Nat → uf6eht2 R
  | 0 => fun _ _ _ _ _ _ _ _ => none
  | m + 1 => uf6eh_1_b C fl k (uf6eh_1_l C fl k kn m) kn
theorem uf6eh_1_l_p {R} (C fl k) (K : KF R) : ∀ m, (cp7 uf6ehs2 (loopK m (kstep C fl k cuf6eh_1_b 0 K))) = uf6eh_1_l C fl k (cp1 uf6ehs1 (K .normal)) m
  | 0 => by kernel_rfl
  | m + 1 => (congr1 (fun g => (cp7 uf6ehs2 (g))) (loop_ce C fl k cuf6eh_1_b 0 K m)).trans ((uf6eh_1_b_e C fl k _).trans (congr1 (fun L => uf6eh_1_b C fl k L (cp1 uf6ehs1 (K .normal))) (uf6eh_1_l_p C fl k K m)))
theorem uf6eh_1_l_e {R} (C fl k) (K : KF R) : (cp7 uf6ehs2 (ce C fl k (.block 0 (.loop cuf6eh_1_b)) K)) = uf6eh_1_l C fl k (cp1 uf6ehs1 (K .normal)) k := (congr1 (fun g => (cp7 uf6ehs2 (g))) (ce_loop C fl k cuf6eh_1_b 0 K)).trans (uf6eh_1_l_p C fl k K k)
def uf6eh_1 {R : Type} (C : Callee) (fl k : Nat) (kr : uf6eht0 R) : uf6eht2 R := uf6eh_1_l C fl k (uf6eh_1_2 C fl k kr) k
theorem uf6eh_1_e {R} (C fl k) (K : KF R) : (cp7 uf6ehs2 (ce C fl k cuf6eh_1 K)) = uf6eh_1 C fl k (cp1 uf6ehs0 (K .ret)) := ((congr1 (fun g => (cp7 uf6ehs2 (g))) (ce_seq C fl k _ _ K)).trans (uf6eh_1_l_e C fl k (kseq C fl k cuf6eh_1_2 K))).trans (congr1 (fun L => uf6eh_1_l C fl k L k) ((congr1 (fun g => (cp1 uf6ehs1 (g))) (seq_n C fl k cuf6eh_1_2 K)).trans (uf6eh_1_2_e C fl k K)))
def uf6ehF {R : Type} (C : Callee) (fl k : Nat) (kx : uf6eht2 R)  (kr : uf6eht0 R) : uf6eht3 R := fun t0 t1 t2 h => asPtr (.pointer t0) fun p13 => ldN h p13.block p13.off fun p14 => alc h [.pointer p14, .slice none 0 0, .slice none 0 0] fun b15 h16 => kx t0 t2 (some ⟨b15, 0, none⟩) ⟨none, 0, 0⟩ t1 ((t1.l : Nat) : Int) 0 h16
def uf6eh {R : Type} (C : Callee) (fl k : Nat) (kr : uf6eht0 R) : uf6eht3 R := uf6ehF C fl k (uf6eh_1 C fl k kr)  kr
theorem uf6eh_g {R} (C fl k) (cn : ACode) (K : KF R) : (cp3 uf6ehs3 (ce C fl k (gcuf6eh cn) K)) = uf6ehF C fl k (cp7 uf6ehs2 (ce C fl k cn K)) (cp1 uf6ehs0 (K .ret)) := by kernel_rfl
theorem uf6eh_e {R} (C fl k) (K : KF R) : (cp3 uf6ehs3 (ce C fl k cuf6eh K)) = uf6eh C fl k (cp1 uf6ehs0 (K .ret)) := (uf6eh_g C fl k cuf6eh_1 K).trans (congr1 (fun L0 => uf6ehF C fl k L0 (cp1 uf6ehs0 (K .ret))) (uf6eh_1_e C fl k K))
def exclusion_proof_greedy (C : Callee) (fl k : Nat) (p0 : OA) (p1 : Sl) (p2 : Int) (h : AH) : Option (Value × AH) := uf6eh C fl k (fun y6 q => some (.slice y6.a y6.l y6.c, q)) p0 p1 p2 h
theorem exclusion_proof_greedy_run (C fl k) (p0 : OA) (p1 : Sl) (p2 : Int) (h) : runF C fl k a_exclusion_proof_greedy [.pointer p0, .slice p1.a p1.l p1.c, .int .i64 p2] h = exclusion_proof_greedy C fl k p0 p1 p2 h :=
  (runF_ce C fl k a_exclusion_proof_greedy [.pointer p0, .slice p1.a p1.l p1.c, .int .i64 p2] h cuf6eh (uf6ehs3 p0 p1 p2) rfl (by kernel_rfl)).trans ((cp3_ap uf6ehs3 (ce C fl k cuf6eh (finalK a_exclusion_proof_greedy.results)) p0 p1 p2 h).symm.trans ((congrFun (congrFun (congrFun (congrFun (uf6eh_e C fl k (finalK a_exclusion_proof_greedy.results)) p0) p1) p2) h).trans (show uf6eh C fl k (cp1 uf6ehs0 ((finalK a_exclusion_proof_greedy.results) .ret)) p0 p1 p2 h = exclusion_proof_greedy C fl k p0 p1 p2 h by kernel_rfl)))
def d_exclusion_proof_greedy (C : Callee) (fl k : Nat) (args : List Value) (h : AH) : Option (Value × AH) := match args with
  | [.pointer n0, .slice n1a n1l n1c, .int .i64 n2] => exclusion_proof_greedy C fl k n0 ⟨n1a, n1l, n1c⟩ n2 h
  | _ => none
theorem d_exclusion_proof_greedy_run {C : Callee} {fl k : Nat} {args : List Value} {h : AH} {r : Value × AH} (e : d_exclusion_proof_greedy C fl k args h = some r) : runF C fl k a_exclusion_proof_greedy args h = some r := by
  unfold d_exclusion_proof_greedy at e
  split at e
  · rename_i n0 n1a n1l n1c n2; exact (exclusion_proof_greedy_run C fl k n0 ⟨n1a, n1l, n1c⟩ n2 h).trans e
  · cases e
abbrev uth1zt0 (R : Type) := Sl → AH → Option R
def uth1zs0 (t6 : Sl) : List Value := un 6 (t6.v :: un 29 [])
def cuth1z_1_2 : ACode := .seq (.region [oI 35 (.mv (.t 7)), oI 6 (.mv (.t 35))] [7, 35]) (.ret)
abbrev uth1zt1 (R : Type) := Sl → AH → Option R
def uth1zs1 (t7 : Sl) : List Value := un 7 (t7.v :: un 28 [])
abbrev uth1zt2 (R : Type) := Sl → Sl → Sl → Int → Int → AH → Option R
def uth1zs2 (t1 t2 t7 : Sl) (t16 t17 : Int) : List Value := un 1 (t1.v :: t2.v :: un 4 (t7.v :: un 8 (vi t16 :: vi t17 :: un 18 [])))
def cuth1z_1_b_3 : ACode := .region [oI 34 (.bin .add .i64 (.t 17) (ci 1)), oI 17 (.mv (.t 34))] [34]
def gcuth1z_1_b (cn : ACode) : ACode := .seq (.seq (.region [oI 18 (.cmp .lss .i64 (.t 17) (.t 16))] []) (.seq (.cond (.t 18) (.region [] [18]) (.seq (.region [] [1, 2, 16, 17, 18]) (.exit 0))) (.block 1 (.seq (.region [oI 19 (.mv (.t 17)), oI 8 (.mv (.t 19))] [19]) (.seq (.region [oI 20 (.mv (.t 1)), oI 21 (.mv (.t 8)), oI 22 (.call (.f 54) [.t 20, .t 21] (.one (.one .bool))), oI 23 (.not (.t 22)), oI 24 (.mv (.t 23)), .grp 24 true [qI 25 (.mv (.t 2)), qI 26 (.mv (.t 8)), qI 27 (.call (.f 54) [.t 25, .t 26] (.one (.one .bool))), qI 28 (.not (.t 27))], oI 29 (.pick (.t 24) (.t 28) (.c (.bool false)))] [20, 21, 22, 23, 24, 25, 26, 27, 28]) (.cond (.t 29) (.region [oI 30 (.mv (.t 7)), oI 31 (.mv (.t 8)), oI 32 (.bslice 1 [.int .i64 0] [(0, 1, .t 31)]), oI 33 (.append 1 8 (.t 30) (.t 32)), oI 7 (.mv (.t 33))] [8, 29, 30, 31, 32, 33]) (.region [] [8, 29]))))))) cn
def cuth1z_1_b : ACode := gcuth1z_1_b cuth1z_1_b_3
def cuth1z_1 : ACode := .seq (.block 0 (.loop cuth1z_1_b)) cuth1z_1_2
def gcuth1z (cn : ACode) : ACode := .seq (.seq (.region [oI 6 (.mv (.c (.slice none 0 0)))] [6]) (.seq (.region [oI 9 (.mv (.t 2)), oI 10 (.call (.f 178) [.t 9] (.one (.one .any))), oI 11 (.call (.f 177) [.t 10] (.one (.one .slice))), oI 7 (.mv (.t 11))] [9, 10, 11]) (.region [oI 12 (.mv (.t 0)), oI 13 (.nilc (.t 12)), oI 14 (.faddr 1 (.t 13)), oI 15 (.faddr 3 (.t 14)), oI 16 (.load (.one (.int .i64)) (.t 15)), oI 17 (.mv (ci 0))] [0, 12, 13, 14, 15]))) cn
def cuth1z : ACode := gcuth1z cuth1z_1
abbrev uth1zt3 (R : Type) := OA → Sl → Sl → AH → Option R
def uth1zs3 (t0 : OA) (t1 t2 : Sl) : List Value := vn t0 :: t1.v :: t2.v :: un 33 []
def a_exclusion_proof_outside : AFunc := ⟨36, cuth1z, [.tmp 6]⟩
theorem ok_exclusion_proof_outside : okF Tryz.prog 159 a_exclusion_proof_outside = true := by kernel_rfl
def uth1z_1_2 {R : Type} (C : Callee) (fl k : Nat) (kr : uth1zt0 R) : uth1zt1 R := fun t7 h => kr t7 h
theorem uth1z_1_2_e {R} (C fl k) (K : KF R) : (cp1 uth1zs1 (ce C fl k cuth1z_1_2 K)) = uth1z_1_2 C fl k (cp1 uth1zs0 (K .ret)) := by kernel_rfl
def uth1z_1_b_3 {R : Type} (C : Callee) (fl k : Nat) (kn : uth1zt2 R) (e0 : uth1zt1 R) : uth1zt2 R := fun t1 t2 t7 t16 t17 h => kn t1 t2 t7 t16 (w64 (t17 + 1)) h
theorem uth1z_1_b_3_e {R} (C fl k) (K : KF R) : (cp5 uth1zs2 (ce C fl k cuth1z_1_b_3 K)) = uth1z_1_b_3 C fl k (cp5 uth1zs2 (K .normal)) (cp1 uth1zs1 (K (.exit 0))) := by kernel_rfl
def uth1z_1_bF {R : Type} (C : Callee) (fl k : Nat) (kx : uth1zt2 R)  (kn : uth1zt2 R) (e0 : uth1zt1 R) : uth1zt2 R := fun t1 t2 t7 t16 t17 h => if decide (t17 < t16) = true then callF C fl fn.slices_Contains [.slice t1.a t1.l t1.c, .int .i64 t17] h fun v1 h2 => asBool v1 fun b3 => if (!b3) = true then callF C fl fn.slices_Contains [.slice t2.a t2.l t2.c, .int .i64 t17] h2 fun v4 h5 => asBool v4 fun b6 => if (!b6) = true then alc h5 [.int .i64 t17] fun b7 h8 => apnd fl 1 8 t7 ⟨(some ⟨b7, 0, none⟩), 1, 1⟩ h8 fun s9 h10 => kx t1 t2 s9 t16 t17 h10 else kx t1 t2 t7 t16 t17 h5 else kx t1 t2 t7 t16 t17 h2 else e0 t7 h
def uth1z_1_b {R : Type} (C : Callee) (fl k : Nat) (kn : uth1zt2 R) (e0 : uth1zt1 R) : uth1zt2 R := uth1z_1_bF C fl k (uth1z_1_b_3 C fl k kn e0)  kn e0
theorem uth1z_1_b_g {R} (C fl k) (cn : ACode) (K : KF R) : (cp5 uth1zs2 (ce C fl k (gcuth1z_1_b cn) K)) = uth1z_1_bF C fl k (cp5 uth1zs2 (ce C fl k cn K)) (cp5 uth1zs2 (K .normal)) (cp1 uth1zs1 (K (.exit 0))) := by kernel_rfl
theorem uth1z_1_b_e {R} (C fl k) (K : KF R) : (cp5 uth1zs2 (ce C fl k cuth1z_1_b K)) = uth1z_1_b C fl k (cp5 uth1zs2 (K .normal)) (cp1 uth1zs1 (K (.exit 0))) := (uth1z_1_b_g C fl k cuth1z_1_b_3 K).trans (congr1 (fun L0 => uth1z_1_bF C fl k L0 (cp5 uth1zs2 (K .normal)) (cp1 uth1zs1 (K (.exit 0)))) (uth1z_1_b_3_e C fl k K))
def uth1z_1_l {R : Type} (C : Callee) (fl k : Nat) (kn : uth1zt1 R) : Nat → uth1zt2 R
  | 0 => fun _ _ _ _ _ _ => none
  | m + 1 => uth1z_1_b C fl k (uth1z_1_l C fl k kn m) kn
theorem uth1z_1_l_p {R} (C fl k) (K : KF R) : ∀ m, (cp5 uth1zs2 (loopK m (kstep C fl k cuth1z_1_b 0 K))) = uth1z_1_l C fl k (cp1 uth1zs1 (K .normal)) m
  | 0 => by kernel_rfl
  | m + 1 => (congr1 (fun g => (cp5 uth1zs2 (g))) (loop_ce C fl k cuth1z_1_b 0 K m)).trans ((uth1z_1_b_e C fl k _).trans (congr1 (fun L => uth1z_1_b C fl k L (cp1 uth1zs1 (K .normal))) (uth1z_1_l_p C fl k K m)))
theorem uth1z_1_l_e {R} (C fl k) (K : KF R) : (cp5 uth1zs2 (ce C fl k (.block 0 (.loop cuth1z_1_b)) K)) = uth1z_1_l C fl k (cp1 uth1zs1 (K .normal)) k := (congr1 (fun g => (cp5 uth1zs2 (g))) (ce_loop C fl k cuth1z_1_b 0 K)).trans (uth1z_1_l_p C fl k K k)
def uth1z_1 {R : Type} (C : Callee) (fl k : Nat) (kr : uth1zt0 R) : uth1zt2 R := uth1z_1_l C fl k (uth1z_1_2 C fl k kr) k
theorem uth1z_1_e {R} (C fl k) (K : KF R) : (cp5 uth1zs2 (ce C fl k cuth1z_1 K)) = uth1z_1 C fl k (cp1 uth1zs0 (K .ret)) := ((congr1 (fun g => (cp5 uth1zs2 (g))) (ce_seq C fl k _ _ K)).trans (uth1z_1_l_e C fl k (kseq C fl k cuth1z_1_2 K))).trans (congr1 (fun L => uth1z_1_l C fl k L k) ((congr1 (fun g => (cp1 uth1zs1 (g))) (seq_n C fl k cuth1z_1_2 K)).trans (uth1z_1_2_e C fl k K)))
def uth1zF {R : Type} (C : Callee) (fl k : Nat) (kx : uth1zt2 R)  (kr : uth1zt0 R) : uth1zt3 R := fun t0 t1 t2 h => callF C fl fn.slices_Values [.slice t2.a t2.l t2.c] h fun v11 h12 => callF C fl fn.slices_Sorted [v11] h12 fun v13 h14 => asSl v13 fun s15 => asPtr (.pointer t0) fun p16 => ldI .i64 h14 p16.block (p16.off + 1 + 3) fun n17 => kx t1 t2 s15 n17 0 h14
def uth1z {R : Type} (C : Callee) (fl k : Nat) (kr : uth1zt0 R) : uth1zt3 R := uth1zF C fl k (uth1z_1 C fl k kr)  kr
theorem uth1z_g {R} (C fl k) (cn : ACode) (K : KF R) : (cp3 uth1zs3 (ce C fl k (gcuth1z cn) K)) = uth1zF C fl k (cp5 uth1zs2 (ce C fl k cn K)) (cp1 uth1zs0 (K .ret)) := by kernel_rfl
theorem uth1z_e {R} (C fl k) (K : KF R) : (cp3 uth1zs3 (ce C fl k cuth1z K)) = uth1z C fl k (cp1 uth1zs0 (K .ret)) := (uth1z_g C fl k cuth1z_1 K).trans (congr1 (fun L0 => uth1zF C fl k L0 (cp1 uth1zs0 (K .ret))) (uth1z_1_e C fl k K))
def exclusion_proof_outside (C : Callee) (fl k : Nat) (p0 : OA) (p1 p2 : Sl) (h : AH) : Option (Value × AH) := uth1z C fl k (fun y6 q => some (.slice y6.a y6.l y6.c, q)) p0 p1 p2 h
theorem exclusion_proof_outside_run (C fl k) (p0 : OA) (p1 p2 : Sl) (h) : runF C fl k a_exclusion_proof_outside [.pointer p0, .slice p1.a p1.l p1.c, .slice p2.a p2.l p2.c] h = exclusion_proof_outside C fl k p0 p1 p2 h :=
  (runF_ce C fl k a_exclusion_proof_outside [.pointer p0, .slice p1.a p1.l p1.c, .slice p2.a p2.l p2.c] h cuth1z (uth1zs3 p0 p1 p2) rfl (by kernel_rfl)).trans ((cp3_ap uth1zs3 (ce C fl k cuth1z (finalK a_exclusion_proof_outside.results)) p0 p1 p2 h).symm.trans ((congrFun (congrFun (congrFun (congrFun (uth1z_e C fl k (finalK a_exclusion_proof_outside.results)) p0) p1) p2) h).trans (show uth1z C fl k (cp1 uth1zs0 ((finalK a_exclusion_proof_outside.results) .ret)) p0 p1 p2 h = exclusion_proof_outside C fl k p0 p1 p2 h by kernel_rfl)))
def d_exclusion_proof_outside (C : Callee) (fl k : Nat) (args : List Value) (h : AH) : Option (Value × AH) := match args with
  | [.pointer n0, .slice n1a n1l n1c, .slice n2a n2l n2c] => exclusion_proof_outside C fl k n0 ⟨n1a, n1l, n1c⟩ ⟨n2a, n2l, n2c⟩ h
  | _ => none
theorem d_exclusion_proof_outside_run {C : Callee} {fl k : Nat} {args : List Value} {h : AH} {r : Value × AH} (e : d_exclusion_proof_outside C fl k args h = some r) : runF C fl k a_exclusion_proof_outside args h = some r := by
  unfold d_exclusion_proof_outside at e
  split at e
  · rename_i n0 n1a n1l n1c n2a n2l n2c; exact (exclusion_proof_outside_run C fl k n0 ⟨n1a, n1l, n1c⟩ ⟨n2a, n2l, n2c⟩ h).trans e
  · cases e
abbrev uouwgt0 (R : Type) := AH → Option R
def uouwgs0 : List Value := un 11 []
def cuouwg : ACode := .seq (.region [oI 3 (.mv (.t 0)), oI 4 (.len (.t 3)), oI 2 (.mv (.t 4))] [3, 4]) (.region [oI 5 (.mv (.t 0)), oI 6 (.mv (.t 2)), oI 7 (.mv (.t 2)), oI 8 (.conv .i64 .u64 (.t 7)), oI 9 (.call (.f 180) [.t 8] (.one (.one (.int .i64)))), oI 10 (.call (.f 179) [.t 5, ci 0, .t 6, .t 9] (.tup []))] [0, 2, 5, 6, 7, 8, 9, 10])
abbrev uouwgt1 (R : Type) := Sl → AH → Option R
def uouwgs1 (t0 : Sl) : List Value := t0.v :: un 10 []
def a_slices_Sort : AFunc := ⟨11, cuouwg, []⟩
theorem ok_slices_Sort : okF Tryz.prog 160 a_slices_Sort = true := by kernel_rfl
def uouwg {R : Type} (C : Callee) (fl k : Nat) (kn : uouwgt0 R) : uouwgt1 R := fun t0 h => callF C fl fn.math_bits_Len [.int .u64 (IntKind.wrap .u64 ((t0.l : Nat) : Int))] h fun v1 h2 => asInt .i64 v1 fun n3 => callF C fl fn.slices_pdqsortOrdered [.slice t0.a t0.l t0.c, .int .i64 0, .int .i64 ((t0.l : Nat) : Int), .int .i64 n3] h2 fun v4 h5 => asTup v4 fun l6 => unil l6 (kn h5)
theorem uouwg_e {R} (C fl k) (K : KF R) : (cp1 uouwgs1 (ce C fl k cuouwg K)) = uouwg C fl k (cp0 uouwgs0 (K .normal)) := by kernel_rfl
def slices_Sort (C : Callee) (fl k : Nat) (p0 : Sl) (h : AH) : Option (Value × AH) := uouwg C fl k (fun q => some (.tuple ⟨[]⟩, q)) p0 h
theorem slices_Sort_run (C fl k) (p0 : Sl) (h) : runF C fl k a_slices_Sort [.slice p0.a p0.l p0.c] h = slices_Sort C fl k p0 h :=
  (runF_ce C fl k a_slices_Sort [.slice p0.a p0.l p0.c] h cuouwg (uouwgs1 p0) rfl (by kernel_rfl)).trans ((cp1_ap uouwgs1 (ce C fl k cuouwg (finalK a_slices_Sort.results)) p0 h).symm.trans ((congrFun (congrFun (uouwg_e C fl k (finalK a_slices_Sort.results)) p0) h).trans (show uouwg C fl k (cp0 uouwgs0 ((finalK a_slices_Sort.results) .normal)) p0 h = slices_Sort C fl k p0 h by kernel_rfl)))
def d_slices_Sort (C : Callee) (fl k : Nat) (args : List Value) (h : AH) : Option (Value × AH) := match args with
  | [.slice n0a n0l n0c] => slices_Sort C fl k ⟨n0a, n0l, n0c⟩ h
  | _ => none
theorem d_slices_Sort_run {C : Callee} {fl k : Nat} {args : List Value} {h : AH} {r : Value × AH} (e : d_slices_Sort C fl k args h = some r) : runF C fl k a_slices_Sort args h = some r := by
  unfold d_slices_Sort at e
  split at e
  · rename_i n0a n0l n0c; exact (slices_Sort_run C fl k ⟨n0a, n0l, n0c⟩ h).trans e
  · cases e
abbrev uyndit0 (R : Type) := Bool → AH → Option R
def uyndis0 (t6 : Bool) : List Value := un 6 (.bool t6 :: un 88 [])
def cuyndi_1_2 : ACode := .seq (.region [oI 46 (.mv (.t 0)), oI 47 (.mv (.t 2)), oI 48 (.mv (.t 2)), oI 49 (.len (.t 48)), oI 50 (.call (.f 158) [.t 46, .t 47, .t 49] (.one (.one .slice))), oI 51 (.len (.t 50)), oI 52 (.mv (.t 2)), oI 53 (.len (.t 52)), oI 54 (.cmp .neq .i64 (.t 51) (.t 53))] [46, 47, 48, 49, 50, 51, 52, 53]) (.seq (.cond (.t 54) (.seq (.region [oI 6 (.mv (.c (.bool false)))] [0, 1, 2, 54]) (.ret)) (.region [] [54])) (.seq (.region [oI 55 (.mv (.t 0)), oI 56 (.nilc (.t 55)), oI 57 (.faddr 7 (.t 56)), oI 58 (.load (.one .bool) (.t 57)), oI 59 (.not (.t 58))] [55, 56, 57, 58]) (.seq (.cond (.t 59) (.seq (.region [oI 60 (.mv (.t 2)), oI 61 (.len (.t 60)), oI 62 (.mv (.t 0)), oI 63 (.nilc (.t 62)), oI 64 (.faddr 8 (.t 63)), oI 65 (.load (.one (.int .i64)) (.t 64)), oI 66 (.cmp .eql .i64 (.t 61) (.t 65)), oI 6 (.mv (.t 66))] [0, 1, 2, 59, 60, 61, 62, 63, 64, 65, 66]) (.ret)) (.region [] [59])) (.seq (.region [oI 67 (.mv (.t 0)), oI 68 (.mv (.t 0)), oI 69 (.mv (.t 1)), oJ 70 (.call (.f 159) [.t 68, .t 69, .c (.slice none 0 0)] (.one (.one .slice))), oI 71 (.mv (.t 0)), oI 72 (.nilc (.t 71)), oI 73 (.faddr 1 (.t 72)), oI 74 (.faddr 3 (.t 73)), oJ 75 (.load (.one (.int .i64)) (.t 74)), oI 76 (.call (.f 158) [.t 67, .t 70, .t 75] (.one (.one .slice))), oI 77 (.len (.t 76)), oI 78 (.mv (.t 2)), oI 79 (.len (.t 78)), oI 80 (.cmp .eql .i64 (.t 77) (.t 79)), oI 81 (.mv (.t 80)), .grp 81 true [qI 82 (.mv (.t 1)), qI 83 (.len (.t 82)), qI 84 (.mv (.t 0)), qI 85 (.mv (.t 1)), qI 86 (.mv (.t 2)), qJ 87 (.call (.f 181) [.t 84, .t 85, .t 86] (.one (.one (.int .i64)))), qI 88 (.bin .add .i64 (.t 83) (.t 87)), qI 89 (.mv (.t 0)), qI 90 (.nilc (.t 89)), qI 91 (.faddr 9 (.t 90)), qJ 92 (.load (.one (.int .i64)) (.t 91)), qI 93 (.cmp .gtr .i64 (.t 88) (.t 92))], oI 94 (.pick (.t 81) (.t 93) (.c (.bool false))), oI 6 (.mv (.t 94))] [0, 1, 2, 67, 68, 69, 70, 71, 72, 73, 74, 75, 76, 77, 78, 79, 80, 81, 82, 83, 84, 85, 86, 87, 88, 89, 90, 91, 92, 93, 94]) (.ret)))))
abbrev uyndit1 (R : Type) := OA → Sl → Sl → AH → Option R
def uyndis1 (t0 : OA) (t1 t2 : Sl) : List Value := vn t0 :: t1.v :: t2.v :: un 92 []
abbrev uyndit2 (R : Type) := OA → Sl → Sl → Sl → Int → Int → AH → Option R
def uyndis2 (t0 : OA) (t1 t2 t9 : Sl) (t10 t11 : Int) : List Value := vn t0 :: t1.v :: t2.v :: un 6 (t9.v :: vi t10 :: vi t11 :: un 83 [])
def cuyndi_1_b_3 : ACode := .region [oI 45 (.bin .add .i64 (.t 11) (ci 1)), oI 11 (.mv (.t 45))] [45]
def gcuyndi_1_b (cn : ACode) : ACode := .seq (.seq (.region [oI 12 (.cmp .lss .i64 (.t 11) (.t 10))] []) (.seq (.cond (.t 12) (.region [] [12]) (.seq (.region [] [9, 10, 11, 12]) (.exit 0))) (.block 1 (.seq (.region [oI 13 (.mv (.t 11)), oI 14 (.iaddr 1 (.t 9) (.t 11)), oI 15 (.load (.one (.int .i64)) (.t 14)), oI 7 (.mv (.t 13)), oI 8 (.mv (.t 15))] [13, 14, 15]) (.seq (.region [oI 16 (.mv (.t 8)), oI 17 (.cmp .lss .i64 (.t 16) (ci 0)), oI 18 (.mv (.t 17)), .grp 18 false [qI 19 (.mv (.t 8)), qI 20 (.mv (.t 0)), qI 21 (.nilc (.t 20)), qI 22 (.faddr 1 (.t 21)), qI 23 (.faddr 3 (.t 22)), qI 24 (.load (.one (.int .i64)) (.t 23)), qI 25 (.cmp .geq .i64 (.t 19) (.t 24))], oI 26 (.pick (.t 18) (.c (.bool true)) (.t 25)), oI 27 (.mv (.t 26)), .grp 27 false [qI 28 (.mv (.t 7)), qI 29 (.cmp .gtr .i64 (.t 28) (ci 0)), qI 30 (.mv (.t 29))], .grp 30 true [qI 31 (.mv (.t 8)), qI 32 (.mv (.t 2)), qI 33 (.mv (.t 7)), qI 34 (.bin .sub .i64 (.t 33) (ci 1)), qI 35 (.iaddr 1 (.t 32) (.t 34)), qI 36 (.load (.one (.int .i64)) (.t 35)), qI 37 (.cmp .leq .i64 (.t 31) (.t 36))], .grp 27 false [qI 38 (.pick (.t 30) (.t 37) (.c (.bool false)))], oI 39 (.pick (.t 27) (.c (.bool true)) (.t 38)), oI 40 (.mv (.t 39)), .grp 40 false [qI 41 (.mv (.t 1)), qI 42 (.mv (.t 8)), qI 43 (.call (.f 54) [.t 41, .t 42] (.one (.one .bool)))], oI 44 (.pick (.t 40) (.c (.bool true)) (.t 43))] [7, 8, 16, 17, 18, 19, 20, 21, 22, 23, 24, 25, 26, 27, 28, 29, 30, 31, 32, 33, 34, 35, 36, 37, 38, 39, 40, 41, 42, 43]) (.cond (.t 44) (.seq (.region [oI 6 (.mv (.c (.bool false)))] [0, 1, 2, 9, 10, 11, 44]) (.ret)) (.region [] [44]))))))) cn
def cuyndi_1_b : ACode := gcuyndi_1_b cuyndi_1_b_3
def cuyndi_1 : ACode := .seq (.block 0 (.loop cuyndi_1_b)) cuyndi_1_2
def gcuyndi (cn : ACode) : ACode := .seq (.seq (.region [oI 6 (.mv (.c (.bool false)))] [6]) (.region [oI 9 (.mv (.t 2)), oI 10 (.len (.t 9)), oI 11 (.mv (ci 0))] [])) cn
def cuyndi : ACode := gcuyndi cuyndi_1
def a_exclusion_proof_right : AFunc := ⟨95, cuyndi, [.tmp 6]⟩
theorem ok_exclusion_proof_right : okF Tryz.prog 161 a_exclusion_proof_right = true := by kernel_rfl
def uyndi_1_2 {R : Type} (C : Callee) (fl k : Nat) (kr : uyndit0 R) : uyndit1 R := fun t0 t1 t2 h => callF C fl fn.exclusion_proof_greedy [.pointer t0, .slice t2.a t2.l t2.c, .int .i64 ((t2.l : Nat) : Int)] h fun v1 h2 => asSl v1 fun s3 => if (((s3.l : Nat) : Int) != ((t2.l : Nat) : Int)) = true then kr false h2 else asPtr (.pointer t0) fun p4 => ldB h2 p4.block (p4.off + 7) fun b5 => if (!b5) = true then asPtr (.pointer t0) fun p6 => ldI .i64 h2 p6.block (p6.off + 8) fun n7 => kr (((t2.l : Nat) : Int) == n7) h2 else callF C h2.next fn.exclusion_proof_outside [.pointer t0, .slice t1.a t1.l t1.c, .slice none 0 0] h2 fun v8 h9 => asSl v8 fun s10 => asPtr (.pointer t0) fun p11 => ldI .i64 h9 p11.block (p11.off + 1 + 3) fun n12 => callF C fl fn.exclusion_proof_greedy [.pointer t0, .slice s10.a s10.l s10.c, .int .i64 n12] h9 fun v13 h14 => asSl v13 fun s15 => if (((s15.l : Nat) : Int) == ((t2.l : Nat) : Int)) = true then callF C h14.next fn.exclusion_proof_light [.pointer t0, .slice t1.a t1.l t1.c, .slice t2.a t2.l t2.c] h14 fun v16 h17 => asInt .i64 v16 fun n18 => asPtr (.pointer t0) fun p19 => ldI .i64 h17 p19.block (p19.off + 9) fun n20 => kr (decide (w64 (((t1.l : Nat) : Int) + n18) > n20)) h17 else kr false h14
theorem uyndi_1_2_e {R} (C fl k) (K : KF R) : (cp3 uyndis1 (ce C fl k cuyndi_1_2 K)) = uyndi_1_2 C fl k (cp1 uyndis0 (K .ret)) := by kernel_rfl
def uyndi_1_b_3 {R : Type} (C : Callee) (fl k : Nat) (kn : uyndit2 R) (e0 : uyndit1 R) (kr : uyndit0 R) : uyndit2 R := fun t0 t1 t2 t9 t10 t11 h => kn t0 t1 t2 t9 t10 (w64 (t11 + 1)) h
theorem uyndi_1_b_3_e {R} (C fl k) (K : KF R) : (cp6 uyndis2 (ce C fl k cuyndi_1_b_3 K)) = uyndi_1_b_3 C fl k (cp6 uyndis2 (K .normal)) (cp3 uyndis1 (K (.exit 0))) (cp1 uyndis0 (K .ret)) := by kernel_rfl
def uyndi_1_bF {R : Type} (C : Callee) (fl k : Nat) (kx : uyndit2 R)  (kn : uyndit2 R) (e0 : uyndit1 R) (kr : uyndit0 R) : uyndit2 R := fun t0 t1 t2 t9 t10 t11 h => if decide (t11 < t10) = true then idx 1 t9 t11 fun p21 => ldI .i64 h p21.block p21.off fun n22 => if decide (n22 < 0) = false then asPtr (.pointer t0) fun p23 => ldI .i64 h p23.block (p23.off + 1 + 3) fun n24 => if decide (n22 ≥ n24) = false then if decide (t11 > 0) = true then idx 1 t2 (w64 (t11 - 1)) fun p25 => ldI .i64 h p25.block p25.off fun n26 => if decide (n22 ≤ n26) = false then callF C fl fn.slices_Contains [.slice t1.a t1.l t1.c, .int .i64 n22] h fun v27 h28 => asBool v27 fun b29 => if b29 = true then kr false h28 else kx t0 t1 t2 t9 t10 t11 h28 else kr false h else callF C fl fn.slices_Contains [.slice t1.a t1.l t1.c, .int .i64 n22] h fun v30 h31 => asBool v30 fun b32 => if b32 = true then kr false h31 else kx t0 t1 t2 t9 t10 t11 h31 else kr false h else kr false h else e0 t0 t1 t2 h
def uyndi_1_b {R : Type} (C : Callee) (fl k : Nat) (kn : uyndit2 R) (e0 : uyndit1 R) (kr : uyndit0 R) : uyndit2 R := uyndi_1_bF C fl k (uyndi_1_b_3 C fl k kn e0 kr)  kn e0 kr
theorem uyndi_1_b_g {R} (C fl k) (cn : ACode) (K : KF R) : (cp6 uyndis2 (ce C fl k (gcuyndi_1_b cn) K)) = uyndi_1_bF C fl k (cp6 uyndis2 (ce C fl k cn K)) (cp6 uyndis2 (K .normal)) (cp3 uyndis1 (K (.exit 0))) (cp1 uyndis0 (K .ret)) := by kernel_rfl
theorem uyndi_1_b_e {R} (C fl k) (K : KF R) : (cp6 uyndis2 (ce C fl k cuyndi_1_b K)) = uyndi_1_b C fl k (cp6 uyndis2 (K .normal)) (cp3 uyndis1 (K (.exit 0))) (cp1 uyndis0 (K .ret)) := (uyndi_1_b_g C fl k cuyndi_1_b_3 K).trans (congr1 (fun L0 => uyndi_1_bF C fl k L0 (cp6 uyndis2 (K .normal)) (cp3 uyndis1 (K (.exit 0))) (cp1 uyndis0 (K .ret))) (uyndi_1_b_3_e C fl k K))
def uyndi_1_l {R : Type} (C : Callee) (fl k : Nat) (kn : uyndit1 R) (kr : uyndit0 R) : Nat → uyndit2 R
  | 0 => fun _ _ _ _ _ _ _ => none
  | m + 1 => uyndi_1_b C fl k (uyndi_1_l C fl k kn kr m) kn kr
theorem uyndi_1_l_p {R} (C fl k) (K : KF R) : ∀ m, (cp6 uyndis2 (loopK m (kstep C fl k cuyndi_1_b 0 K))) = uyndi_1_l C fl k (cp3 uyndis1 (K .normal)) (cp1 uyndis0 (K .ret)) m
  | 0 => by kernel_rfl
  | m + 1 => (congr1 (fun g => (cp6 uyndis2 (g))) (loop_ce C fl k cuyndi_1_b 0 K m)).trans ((uyndi_1_b_e C fl k _).trans (congr1 (fun L => uyndi_1_b C fl k L (cp3 uyndis1 (K .normal)) (cp1 uyndis0 (K .ret))) (uyndi_1_l_p C fl k K m)))
theorem uyndi_1_l_e {R} (C fl k) (K : KF R) : (cp6 uyndis2 (ce C fl k (.block 0 (.loop cuyndi_1_b)) K)) = uyndi_1_l C fl k (cp3 uyndis1 (K .normal)) (cp1 uyndis0 (K .ret)) k := (congr1 (fun g => (cp6 uyndis2 (g))) (ce_loop C fl k cuyndi_1_b 0 K)).trans (uyndi_1_l_p C fl k K k)
def uyndi_1 {R : Type} (C : Callee) (fl k : Nat) (kr : uyndit0 R) : uyndit2 R := uyndi_1_l C fl k (uyndi_1_2 C fl k kr) kr k
theorem uyndi_1_e {R} (C fl k) (K : KF R) : (cp6 uyndis2 (ce C fl k cuyndi_1 K)) = uyndi_1 C fl k (cp1 uyndis0 (K .ret)) := ((congr1 (fun g => (cp6 uyndis2 (g))) (ce_seq C fl k _ _ K)).trans (uyndi_1_l_e C fl k (kseq C fl k cuyndi_1_2 K))).trans (congr1 (fun L => uyndi_1_l C fl k L (cp1 uyndis0 (K .ret)) k) ((congr1 (fun g => (cp3 uyndis1 (g))) (seq_n C fl k cuyndi_1_2 K)).trans (uyndi_1_2_e C fl k K)))
def uyndiF {R : Type} (C : Callee) (fl k : Nat) (kx : uyndit2 R)  (kr : uyndit0 R) : uyndit1 R := fun t0 t1 t2 h => kx t0 t1 t2 t2 ((t2.l : Nat) : Int) 0 h
def uyndi {R : Type} (C : Callee) (fl k : Nat) (kr : uyndit0 R) : uyndit1 R := uyndiF C fl k (uyndi_1 C fl k kr)  kr
theorem uyndi_g {R} (C fl k) (cn : ACode) (K : KF R) : (cp3 uyndis1 (ce C fl k (gcuyndi cn) K)) = uyndiF C fl k (cp6 uyndis2 (ce C fl k cn K)) (cp1 uyndis0 (K .ret)) := by kernel_rfl
theorem uyndi_e {R} (C fl k) (K : KF R) : (cp3 uyndis1 (ce C fl k cuyndi K)) = uyndi C fl k (cp1 uyndis0 (K .ret)) := (uyndi_g C fl k cuyndi_1 K).trans (congr1 (fun L0 => uyndiF C fl k L0 (cp1 uyndis0 (K .ret))) (uyndi_1_e C fl k K))
def exclusion_proof_right (C : Callee) (fl k : Nat) (p0 : OA) (p1 p2 : Sl) (h : AH) : Option (Value × AH) := uyndi C fl k (fun y6 q => some (.bool y6, q)) p0 p1 p2 h
theorem exclusion_proof_right_run (C fl k) (p0 : OA) (p1 p2 : Sl) (h) : runF C fl k a_exclusion_proof_right [.pointer p0, .slice p1.a p1.l p1.c, .slice p2.a p2.l p2.c] h = exclusion_proof_right C fl k p0 p1 p2 h :=
  (runF_ce C fl k a_exclusion_proof_right [.pointer p0, .slice p1.a p1.l p1.c, .slice p2.a p2.l p2.c] h cuyndi (uyndis1 p0 p1 p2) rfl (by kernel_rfl)).trans ((cp3_ap uyndis1 (ce C fl k cuyndi (finalK a_exclusion_proof_right.results)) p0 p1 p2 h).symm.trans ((congrFun (congrFun (congrFun (congrFun (uyndi_e C fl k (finalK a_exclusion_proof_right.results)) p0) p1) p2) h).trans (show uyndi C fl k (cp1 uyndis0 ((finalK a_exclusion_proof_right.results) .ret)) p0 p1 p2 h = exclusion_proof_right C fl k p0 p1 p2 h by kernel_rfl)))
def d_exclusion_proof_right (C : Callee) (fl k : Nat) (args : List Value) (h : AH) : Option (Value × AH) := match args with
  | [.pointer n0, .slice n1a n1l n1c, .slice n2a n2l n2c] => exclusion_proof_right C fl k n0 ⟨n1a, n1l, n1c⟩ ⟨n2a, n2l, n2c⟩ h
  | _ => none
theorem d_exclusion_proof_right_run {C : Callee} {fl k : Nat} {args : List Value} {h : AH} {r : Value × AH} (e : d_exclusion_proof_right C fl k args h = some r) : runF C fl k a_exclusion_proof_right args h = some r := by
  unfold d_exclusion_proof_right at e
  split at e
  · rename_i n0 n1a n1l n1c n2a n2l n2c; exact (exclusion_proof_right_run C fl k n0 ⟨n1a, n1l, n1c⟩ ⟨n2a, n2l, n2c⟩ h).trans e
  · cases e
abbrev uk7vqt0 (R : Type) := Int → AH → Option R
def uk7vqs0 (t10 : Int) : List Value := un 10 (vi t10 :: un 38 [])
def cuk7vq_1_2 : ACode := .seq (.region [oI 10 (.mv (ci 0))] []) (.ret)
abbrev uk7vqt1 (R : Type) := AH → Option R
def uk7vqs1 : List Value := un 49 []
abbrev uk7vqt2 (R : Type) := Sl → Sl → Value → Sl → Int → Int → AH → Option R
def uk7vqs2 (t1 t2 : Sl) (t4 : Value) (t23 : Sl) (t24 t25 : Int) : List Value := un 1 (t1.v :: t2.v :: un 1 (t4 :: un 18 (t23.v :: vi t24 :: vi t25 :: un 23 [])))
def cuk7vq_1_b_3 : ACode := .region [oI 48 (.bin .add .i64 (.t 25) (ci 1)), oI 25 (.mv (.t 48))] [48]
def gcuk7vq_1_b (cn : ACode) : ACode := .seq (.seq (.region [oI 26 (.cmp .lss .i64 (.t 25) (.t 24))] []) (.seq (.cond (.t 26) (.region [] [26]) (.seq (.region [] [1, 2, 4, 23, 24, 25, 26]) (.exit 0))) (.block 1 (.seq (.region [oI 27 (.iaddr 1 (.t 23) (.t 25)), oI 28 (.load (.one (.int .i64)) (.t 27)), oI 12 (.mv (.t 28))] [27, 28]) (.seq (.seq (.region [oI 29 (.mv (.t 2)), oI 30 (.mv (.t 12)), oI 31 (.call (.f 54) [.t 29, .t 30] (.one (.one .bool)))] [29, 30]) (.cond (.t 31) (.seq (.region [] [12, 31]) (.exit 1)) (.region [] [31]))) (.seq (.seq (.region [oI 32 (.mv (.t 4)), oI 33 (.mv (.t 1)), oI 34 (.call (.f 118) [.t 33] (.one (.one .slice))), oI 35 (.mv (.t 12)), oI 36 (.bslice 1 [.int .i64 0] [(0, 1, .t 35)]), oI 37 (.append 1 8 (.t 34) (.t 36)), oI 38 (.mv (.t 2)), oI 39 (.call (.f 118) [.t 38] (.one (.one .slice))), oI 40 (.call (.t 32) [.t 37, .t 39] (.one (.one (.int .i64)))), oI 13 (.mv (.t 40))] [32, 33, 34, 35, 36, 37, 38, 39, 40]) (.seq (.region [oI 41 (.mv (.t 13)), oI 42 (.cmp .neq .i64 (.t 41) (ci 0))] [41]) (.cond (.t 42) (.seq (.region [oI 43 (.mv (.t 13)), oI 10 (.mv (.t 43))] [1, 2, 4, 12, 13, 23, 24, 25, 42, 43]) (.ret)) (.region [] [13, 42])))) (.region [oI 44 (.mv (.t 2)), oI 45 (.mv (.t 12)), oI 46 (.bslice 1 [.int .i64 0] [(0, 1, .t 45)]), oI 47 (.append 1 8 (.t 44) (.t 46)), oI 2 (.mv (.t 47))] [12, 44, 45, 46, 47]))))))) cn
def cuk7vq_1_b : ACode := gcuk7vq_1_b cuk7vq_1_b_3
def cuk7vq_1 : ACode := .seq (.block 0 (.loop cuk7vq_1_b)) cuk7vq_1_2
def gcuk7vq (cn : ACode) : ACode := .seq (.seq (.region [oI 10 (.mv (ci 0))] [10]) (.seq (.region [oI 14 (.mv (.t 1)), oI 15 (.len (.t 14)), oI 16 (.mv (.t 0)), oI 17 (.nilc (.t 16)), oI 18 (.faddr 9 (.t 17)), oI 19 (.load (.one (.int .i64)) (.t 18)), oI 20 (.cmp .eql .i64 (.t 15) (.t 19))] [0, 14, 15, 16, 17, 18, 19]) (.seq (.cond (.t 20) (.seq (.region [oI 10 (.mv (ci 0))] [1, 2, 3, 4, 20]) (.ret)) (.region [] [20])) (.seq (.region [oI 21 (.mv (.t 2)), oI 22 (.call (.f 118) [.t 21] (.one (.one .slice))), oI 2 (.mv (.t 22))] [21, 22]) (.region [oI 23 (.mv (.t 3)), oI 24 (.len (.t 23)), oI 25 (.mv (ci 0))] [3]))))) cn
def cuk7vq : ACode := gcuk7vq cuk7vq_1
abbrev uk7vqt3 (R : Type) := OA → Sl → Sl → Sl → Value → AH → Option R
def uk7vqs3 (t0 : OA) (t1 t2 t3 : Sl) (t4 : Value) : List Value := vn t0 :: t1.v :: t2.v :: t3.v :: t4 :: un 44 []
def a_exclusion_proof_children : AFunc := ⟨49, cuk7vq, [.tmp 10]⟩
theorem ok_exclusion_proof_children : okF Tryz.prog 162 a_exclusion_proof_children = true := by kernel_rfl
def uk7vq_1_2 {R : Type} (C : Callee) (fl k : Nat) (kr : uk7vqt0 R) : uk7vqt1 R := fun h => kr 0 h
theorem uk7vq_1_2_e {R} (C fl k) (K : KF R) : (cp0 uk7vqs1 (ce C fl k cuk7vq_1_2 K)) = uk7vq_1_2 C fl k (cp1 uk7vqs0 (K .ret)) := by kernel_rfl
def uk7vq_1_b_3 {R : Type} (C : Callee) (fl k : Nat) (kn : uk7vqt2 R) (e0 : uk7vqt1 R) (kr : uk7vqt0 R) : uk7vqt2 R := fun t1 t2 t4 t23 t24 t25 h => kn t1 t2 t4 t23 t24 (w64 (t25 + 1)) h
theorem uk7vq_1_b_3_e {R} (C fl k) (K : KF R) : (cp6 uk7vqs2 (ce C fl k cuk7vq_1_b_3 K)) = uk7vq_1_b_3 C fl k (cp6 uk7vqs2 (K .normal)) (cp0 uk7vqs1 (K (.exit 0))) (cp1 uk7vqs0 (K .ret)) := by kernel_rfl
def uk7vq_1_bF {R : Type} (C : Callee) (fl k : Nat) (kx : uk7vqt2 R)  (kn : uk7vqt2 R) (e0 : uk7vqt1 R) (kr : uk7vqt0 R) : uk7vqt2 R := fun t1 t2 t4 t23 t24 t25 h => if decide (t25 < t24) = true then idx 1 t23 t25 fun p1 => ldI .i64 h p1.block p1.off fun n2 => callF C fl fn.slices_Contains [.slice t2.a t2.l t2.c, .int .i64 n2] h fun v3 h4 => asBool v3 fun b5 => if b5 = true then kx t1 t2 t4 t23 t24 t25 h4 else callF C fl fn.slices_Clone [.slice t1.a t1.l t1.c] h4 fun v6 h7 => asSl v6 fun s8 => alc h7 [.int .i64 n2] fun b9 h10 => apnd fl 1 8 s8 ⟨(some ⟨b9, 0, none⟩), 1, 1⟩ h10 fun s11 h12 => callF C fl fn.slices_Clone [.slice t2.a t2.l t2.c] h12 fun v13 h14 => asSl v13 fun s15 => callV C fl t4 [.slice s11.a s11.l s11.c, .slice s15.a s15.l s15.c] h14 fun v16 h17 => asInt .i64 v16 fun n18 => if (n18 != 0) = true then kr n18 h17 else alc h17 [.int .i64 n2] fun b19 h20 => apnd fl 1 8 t2 ⟨(some ⟨b19, 0, none⟩), 1, 1⟩ h20 fun s21 h22 => kx t1 s21 t4 t23 t24 t25 h22 else e0 h
def uk7vq_1_b {R : Type} (C : Callee) (fl k : Nat) (kn : uk7vqt2 R) (e0 : uk7vqt1 R) (kr : uk7vqt0 R) : uk7vqt2 R := uk7vq_1_bF C fl k (uk7vq_1_b_3 C fl k kn e0 kr)  kn e0 kr
theorem uk7vq_1_b_g {R} (C fl k) (cn : ACode) (K : KF R) : (cp6 uk7vqs2 (ce C fl k (gcuk7vq_1_b cn) K)) = uk7vq_1_bF C fl k (cp6 uk7vqs2 (ce C fl k cn K)) (cp6 uk7vqs2 (K .normal)) (cp0 uk7vqs1 (K (.exit 0))) (cp1 uk7vqs0 (K .ret)) := by kernel_rfl
theorem uk7vq_1_b_e {R} (C fl k) (K : KF R) : (cp6 uk7vqs2 (ce C fl k cuk7vq_1_b K)) = uk7vq_1_b C fl k (cp6 uk7vqs2 (K .normal)) (cp0 uk7vqs1 (K (.exit 0))) (cp1 uk7vqs0 (K .ret)) := (uk7vq_1_b_g C fl k cuk7vq_1_b_3 K).trans (congr1 (fun L0 => uk7vq_1_bF C fl k L0 (cp6 uk7vqs2 (K .normal)) (cp0 uk7vqs1 (K (.exit 0))) (cp1 uk7vqs0 (K .ret))) (uk7vq_1_b_3_e C fl k K))
def uk7vq_1_l {R : Type} (C : Callee) (fl k : Nat) (kn : uk7vqt1 R) (kr : uk7vqt0 R) : Nat → uk7vqt2 R
  | 0 => fun _ _ _ _ _ _ _ => none
  | m + 1 => uk7vq_1_b C fl k (uk7vq_1_l C fl k kn kr m) kn kr
theorem uk7vq_1_l_p {R} (C fl k) (K : KF R) : ∀ m, (cp6 uk7vqs2 (loopK m (kstep C fl k cuk7vq_1_b 0 K))) = uk7vq_1_l C fl k (cp0 uk7vqs1 (K .normal)) (cp1 uk7vqs0 (K .ret)) m
  | 0 => by kernel_rfl
  | m + 1 => (congr1 (fun g => (cp6 uk7vqs2 (g))) (loop_ce C fl k cuk7vq_1_b 0 K m)).trans ((uk7vq_1_b_e C fl k _).trans (congr1 (fun L => uk7vq_1_b C fl k L (cp0 uk7vqs1 (K .normal)) (cp1 uk7vqs0 (K .ret))) (uk7vq_1_l_p C fl k K m)))
theorem uk7vq_1_l_e {R} (C fl k) (K : KF R) : (cp6 uk7vqs2 (ce C fl k (.block 0 (.loop cuk7vq_1_b)) K)) = uk7vq_1_l C fl k (cp0 uk7vqs1 (K .normal)) (cp1 uk7vqs0 (K .ret)) k := (congr1 (fun g => (cp6 uk7vqs2 (g))) (ce_loop C fl k cuk7vq_1_b 0 K)).trans (uk7vq_1_l_p C fl k K k)
def uk7vq_1 {R : Type} (C : Callee) (fl k : Nat) (kr : uk7vqt0 R) : uk7vqt2 R := uk7vq_1_l C fl k (uk7vq_1_2 C fl k kr) kr k
theorem uk7vq_1_e {R} (C fl k) (K : KF R) : (cp6 uk7vqs2 (ce C fl k cuk7vq_1 K)) = uk7vq_1 C fl k (cp1 uk7vqs0 (K .ret)) := ((congr1 (fun g => (cp6 uk7vqs2 (g))) (ce_seq C fl k _ _ K)).trans (uk7vq_1_l_e C fl k (kseq C fl k cuk7vq_1_2 K))).trans (congr1 (fun L => uk7vq_1_l C fl k L (cp1 uk7vqs0 (K .ret)) k) ((congr1 (fun g => (cp0 uk7vqs1 (g))) (seq_n C fl k cuk7vq_1_2 K)).trans (uk7vq_1_2_e C fl k K)))
def uk7vqF {R : Type} (C : Callee) (fl k : Nat) (kx : uk7vqt2 R)  (kr : uk7vqt0 R) : uk7vqt3 R := fun t0 t1 t2 t3 t4 h => asPtr (.pointer t0) fun p23 => ldI .i64 h p23.block (p23.off + 9) fun n24 => if (((t1.l : Nat) : Int) == n24) = true then kr 0 h else callF C fl fn.slices_Clone [.slice t2.a t2.l t2.c] h fun v25 h26 => asSl v25 fun s27 => kx t1 s27 t4 t3 ((t3.l : Nat) : Int) 0 h26
def uk7vq {R : Type} (C : Callee) (fl k : Nat) (kr : uk7vqt0 R) : uk7vqt3 R := uk7vqF C fl k (uk7vq_1 C fl k kr)  kr
theorem uk7vq_g {R} (C fl k) (cn : ACode) (K : KF R) : (cp5 uk7vqs3 (ce C fl k (gcuk7vq cn) K)) = uk7vqF C fl k (cp6 uk7vqs2 (ce C fl k cn K)) (cp1 uk7vqs0 (K .ret)) := by kernel_rfl
theorem uk7vq_e {R} (C fl k) (K : KF R) : (cp5 uk7vqs3 (ce C fl k cuk7vq K)) = uk7vq C fl k (cp1 uk7vqs0 (K .ret)) := (uk7vq_g C fl k cuk7vq_1 K).trans (congr1 (fun L0 => uk7vqF C fl k L0 (cp1 uk7vqs0 (K .ret))) (uk7vq_1_e C fl k K))
def exclusion_proof_children (C : Callee) (fl k : Nat) (p0 : OA) (p1 p2 p3 : Sl) (p4 : Value) (h : AH) : Option (Value × AH) := uk7vq C fl k (fun y10 q => some (.int .i64 y10, q)) p0 p1 p2 p3 p4 h
theorem exclusion_proof_children_run (C fl k) (p0 : OA) (p1 p2 p3 : Sl) (p4 : Value) (h) : runF C fl k a_exclusion_proof_children [.pointer p0, .slice p1.a p1.l p1.c, .slice p2.a p2.l p2.c, .slice p3.a p3.l p3.c, p4] h = exclusion_proof_children C fl k p0 p1 p2 p3 p4 h :=
  (runF_ce C fl k a_exclusion_proof_children [.pointer p0, .slice p1.a p1.l p1.c, .slice p2.a p2.l p2.c, .slice p3.a p3.l p3.c, p4] h cuk7vq (uk7vqs3 p0 p1 p2 p3 p4) rfl (by kernel_rfl)).trans ((cp5_ap uk7vqs3 (ce C fl k cuk7vq (finalK a_exclusion_proof_children.results)) p0 p1 p2 p3 p4 h).symm.trans ((congrFun (congrFun (congrFun (congrFun (congrFun (congrFun (uk7vq_e C fl k (finalK a_exclusion_proof_children.results)) p0) p1) p2) p3) p4) h).trans (show uk7vq C fl k (cp1 uk7vqs0 ((finalK a_exclusion_proof_children.results) .ret)) p0 p1 p2 p3 p4 h = exclusion_proof_children C fl k p0 p1 p2 p3 p4 h by kernel_rfl)))
def d_exclusion_proof_children (C : Callee) (fl k : Nat) (args : List Value) (h : AH) : Option (Value × AH) := match args with
  | [.pointer n0, .slice n1a n1l n1c, .slice n2a n2l n2c, .slice n3a n3l n3c, n4] => exclusion_proof_children C fl k n0 ⟨n1a, n1l, n1c⟩ ⟨n2a, n2l, n2c⟩ ⟨n3a, n3l, n3c⟩ n4 h
  | _ => none
theorem d_exclusion_proof_children_run {C : Callee} {fl k : Nat} {args : List Value} {h : AH} {r : Value × AH} (e : d_exclusion_proof_children C fl k args h = some r) : runF C fl k a_exclusion_proof_children args h = some r := by
  unfold d_exclusion_proof_children at e
  split at e
  · rename_i n0 n1a n1l n1c n2a n2l n2c n3a n3l n3c n4; exact (exclusion_proof_children_run C fl k n0 ⟨n1a, n1l, n1c⟩ ⟨n2a, n2l, n2c⟩ ⟨n3a, n3l, n3c⟩ n4 h).trans e
  · cases e
abbrev utvfst0 (R : Type) := Sl → AH → Option R
def utvfss0 (t6 : Sl) : List Value := un 6 (t6.v :: un 20 [])
def cutvfs_1_2 : ACode := .seq (.region [oI 26 (.mv (.t 7)), oI 6 (.mv (.t 26))] [7, 26]) (.ret)
abbrev utvfst1 (R : Type) := Sl → AH → Option R
def utvfss1 (t7 : Sl) : List Value := un 7 (t7.v :: un 19 [])
abbrev utvfst2 (R : Type) := Int → Int → Sl → Int → Int → AH → Option R
def utvfss2 (t0 t1 : Int) (t7 : Sl) (t12 t13 : Int) : List Value := vi t0 :: vi t1 :: un 5 (t7.v :: un 4 (vi t12 :: vi t13 :: un 13 []))
def cutvfs_1_b : ACode := .seq (.region [oI 14 (.cmp .lss .i64 (.t 13) (.t 12))] []) (.seq (.cond (.t 14) (.region [] [14]) (.seq (.region [] [0, 1, 12, 13, 14]) (.exit 0))) (.seq (.block 1 (.seq (.region [oI 15 (.mv (.t 13)), oI 8 (.mv (.t 15))] [15]) (.seq (.region [oI 16 (.mv (.t 7)), oI 17 (.mv (.t 8)), oI 18 (.mv (.t 0)), oI 19 (.mv (.t 1)), oI 20 (.bin .rem .i64 (.t 18) (.t 19)), oI 21 (.iaddr 1 (.t 16) (.t 17)), pI (.store 1 (.t 21) (.t 20))] [8, 16, 17, 18, 19, 20, 21]) (.region [oI 22 (.mv (.t 0)), oI 23 (.mv (.t 1)), oI 24 (.bin .quo .i64 (.t 22) (.t 23)), oI 0 (.mv (.t 24))] [22, 23, 24])))) (.region [oI 25 (.bin .add .i64 (.t 13) (ci 1)), oI 13 (.mv (.t 25))] [25])))
def cutvfs_1 : ACode := .seq (.block 0 (.loop cutvfs_1_b)) cutvfs_1_2
def gcutvfs (cn : ACode) : ACode := .seq (.seq (.region [oI 6 (.mv (.c (.slice none 0 0)))] [6]) (.seq (.region [oI 9 (.mv (.t 2)), oI 10 (.mkslice 8 [.int .i64 0] (.t 9) (.t 9)), oI 7 (.mv (.t 10))] [2, 9, 10]) (.region [oI 11 (.mv (.t 7)), oI 12 (.len (.t 11)), oI 13 (.mv (ci 0))] [11]))) cn
def cutvfs : ACode := gcutvfs cutvfs_1
abbrev utvfst3 (R : Type) := Int → Int → Int → AH → Option R
def utvfss3 (t0 t1 t2 : Int) : List Value := vi t0 :: vi t1 :: vi t2 :: un 24 []
def a_field_digitsOf : AFunc := ⟨27, cutvfs, [.tmp 6]⟩
theorem ok_field_digitsOf : okF Tryz.prog 170 a_field_digitsOf = true := by kernel_rfl
def utvfs_1_2 {R : Type} (C : Callee) (fl k : Nat) (kr : utvfst0 R) : utvfst1 R := fun t7 h => kr t7 h
theorem utvfs_1_2_e {R} (C fl k) (K : KF R) : (cp1 utvfss1 (ce C fl k cutvfs_1_2 K)) = utvfs_1_2 C fl k (cp1 utvfss0 (K .ret)) := by kernel_rfl
def utvfs_1_b {R : Type} (C : Callee) (fl k : Nat) (kn : utvfst2 R) (e0 : utvfst1 R) : utvfst2 R := fun t0 t1 t7 t12 t13 h => if decide (t13 < t12) = true then binQ .rem .i64 t0 t1 fun n1 => idx 1 t7 t13 fun p2 => st fl h p2 [.int .i64 n1] fun h3 => binQ .quo .i64 t0 t1 fun n4 => kn n4 t1 t7 t12 (w64 (t13 + 1)) h3 else e0 t7 h
theorem utvfs_1_b_e {R} (C fl k) (K : KF R) : (cp5 utvfss2 (ce C fl k cutvfs_1_b K)) = utvfs_1_b C fl k (cp5 utvfss2 (K .normal)) (cp1 utvfss1 (K (.exit 0))) := by kernel_rfl
def utvfs_1_l {R : Type} (C : Callee) (fl k : Nat) (kn : utvfst1 R) : Nat → utvfst2 R
  | 0 => fun _ _ _ _ _ _ => none
  | m + 1 => utvfs_1_b C fl k (utvfs_1_l C fl k kn m) kn
theorem utvfs_1_l_p {R} (C fl k) (K : KF R) : ∀ m, (cp5 utvfss2 (loopK m (kstep C fl k cutvfs_1_b 0 K))) = utvfs_1_l C fl k (cp1 utvfss1 (K .normal)) m
  | 0 => by kernel_rfl
  | m + 1 => (congr1 (fun g => (cp5 utvfss2 (g))) (loop_ce C fl k cutvfs_1_b 0 K m)).trans ((utvfs_1_b_e C fl k _).trans (congr1 (fun L => utvfs_1_b C fl k L (cp1 utvfss1 (K .normal))) (utvfs_1_l_p C fl k K m)))
theorem utvfs_1_l_e {R} (C fl k) (K : KF R) : (cp5 utvfss2 (ce C fl k (.block 0 (.loop cutvfs_1_b)) K)) = utvfs_1_l C fl k (cp1 utvfss1 (K .normal)) k := (congr1 (fun g => (cp5 utvfss2 (g))) (ce_loop C fl k cutvfs_1_b 0 K)).trans (utvfs_1_l_p C fl k K k)
def utvfs_1 {R : Type} (C : Callee) (fl k : Nat) (kr : utvfst0 R) : utvfst2 R := utvfs_1_l C fl k (utvfs_1_2 C fl k kr) k
theorem utvfs_1_e {R} (C fl k) (K : KF R) : (cp5 utvfss2 (ce C fl k cutvfs_1 K)) = utvfs_1 C fl k (cp1 utvfss0 (K .ret)) := ((congr1 (fun g => (cp5 utvfss2 (g))) (ce_seq C fl k _ _ K)).trans (utvfs_1_l_e C fl k (kseq C fl k cutvfs_1_2 K))).trans (congr1 (fun L => utvfs_1_l C fl k L k) ((congr1 (fun g => (cp1 utvfss1 (g))) (seq_n C fl k cutvfs_1_2 K)).trans (utvfs_1_2_e C fl k K)))
def utvfsF {R : Type} (C : Callee) (fl k : Nat) (kx : utvfst2 R)  (kr : utvfst0 R) : utvfst3 R := fun t0 t1 t2 h => mkSl 8 [.int .i64 0] t2 t2 h fun s5 h6 => kx t0 t1 s5 ((s5.l : Nat) : Int) 0 h6
def utvfs {R : Type} (C : Callee) (fl k : Nat) (kr : utvfst0 R) : utvfst3 R := utvfsF C fl k (utvfs_1 C fl k kr)  kr
theorem utvfs_g {R} (C fl k) (cn : ACode) (K : KF R) : (cp3 utvfss3 (ce C fl k (gcutvfs cn) K)) = utvfsF C fl k (cp5 utvfss2 (ce C fl k cn K)) (cp1 utvfss0 (K .ret)) := by kernel_rfl
theorem utvfs_e {R} (C fl k) (K : KF R) : (cp3 utvfss3 (ce C fl k cutvfs K)) = utvfs C fl k (cp1 utvfss0 (K .ret)) := (utvfs_g C fl k cutvfs_1 K).trans (congr1 (fun L0 => utvfsF C fl k L0 (cp1 utvfss0 (K .ret))) (utvfs_1_e C fl k K))
def field_digitsOf (C : Callee) (fl k : Nat) (p0 p1 p2 : Int) (h : AH) : Option (Value × AH) := utvfs C fl k (fun y6 q => some (.slice y6.a y6.l y6.c, q)) p0 p1 p2 h
theorem field_digitsOf_run (C fl k) (p0 p1 p2 : Int) (h) : runF C fl k a_field_digitsOf [.int .i64 p0, .int .i64 p1, .int .i64 p2] h = field_digitsOf C fl k p0 p1 p2 h :=
  (runF_ce C fl k a_field_digitsOf [.int .i64 p0, .int .i64 p1, .int .i64 p2] h cutvfs (utvfss3 p0 p1 p2) rfl (by kernel_rfl)).trans ((cp3_ap utvfss3 (ce C fl k cutvfs (finalK a_field_digitsOf.results)) p0 p1 p2 h).symm.trans ((congrFun (congrFun (congrFun (congrFun (utvfs_e C fl k (finalK a_field_digitsOf.results)) p0) p1) p2) h).trans (show utvfs C fl k (cp1 utvfss0 ((finalK a_field_digitsOf.results) .ret)) p0 p1 p2 h = field_digitsOf C fl k p0 p1 p2 h by kernel_rfl)))
def d_field_digitsOf (C : Callee) (fl k : Nat) (args : List Value) (h : AH) : Option (Value × AH) := match args with
  | [.int .i64 n0, .int .i64 n1, .int .i64 n2] => field_digitsOf C fl k n0 n1 n2 h
  | _ => none
theorem d_field_digitsOf_run {C : Callee} {fl k : Nat} {args : List Value} {h : AH} {r : Value × AH} (e : d_field_digitsOf C fl k args h = some r) : runF C fl k a_field_digitsOf args h = some r := by
  unfold d_field_digitsOf at e
  split at e
  · rename_i n0 n1 n2; exact (field_digitsOf_run C fl k n0 n1 n2 h).trans e
  · cases e
abbrev ul9dqt0 (R : Type) := Int → AH → Option R
def ul9dqs0 (t4 : Int) : List Value := un 4 (vi t4 :: un 18 [])
def cul9dq_1_2 : ACode := .seq (.region [oI 22 (.mv (.t 5)), oI 4 (.mv (.t 22))] [5, 22]) (.ret)
abbrev ul9dqt1 (R : Type) := Int → AH → Option R
def ul9dqs1 (t5 : Int) : List Value := un 5 (vi t5 :: un 17 [])
abbrev ul9dqt2 (R : Type) := Sl → Int → Int → Int → AH → Option R
def ul9dqs2 (t0 : Sl) (t1 t5 t6 : Int) : List Value := t0.v :: vi t1 :: un 3 (vi t5 :: vi t6 :: un 16 [])
def cul9dq_1_b : ACode := .seq (.region [oI 10 (.mv (.t 6)), oI 11 (.cmp .geq .i64 (.t 10) (ci 0))] [10]) (.seq (.cond (.t 11) (.region [] [11]) (.seq (.region [] [0, 1, 6, 11]) (.exit 0))) (.seq (.block 1 (.region [oI 14 (.mv (.t 5)), oI 15 (.mv (.t 1)), oI 16 (.bin .mul .i64 (.t 14) (.t 15)), oI 17 (.mv (.t 0)), oI 18 (.mv (.t 6)), oI 19 (.iaddr 1 (.t 17) (.t 18)), oI 20 (.load (.one (.int .i64)) (.t 19)), oI 21 (.bin .add .i64 (.t 16) (.t 20)), oI 5 (.mv (.t 21))] [14, 15, 16, 17, 18, 19, 20, 21])) (.region [oI 12 (.mv (.t 6)), oI 13 (.bin .sub .i64 (.t 12) (ci 1)), oI 6 (.mv (.t 13))] [12, 13])))
def cul9dq_1 : ACode := .seq (.block 0 (.loop cul9dq_1_b)) cul9dq_1_2
def gcul9dq (cn : ACode) : ACode := .seq (.seq (.region [oI 4 (.mv (ci 0))] [4]) (.seq (.region [oI 5 (.mv (ci 0))] []) (.region [oI 7 (.mv (.t 0)), oI 8 (.len (.t 7)), oI 9 (.bin .sub .i64 (.t 8) (ci 1)), oI 6 (.mv (.t 9))] [7, 8, 9]))) cn
def cul9dq : ACode := gcul9dq cul9dq_1
abbrev ul9dqt3 (R : Type) := Sl → Int → AH → Option R
def ul9dqs3 (t0 : Sl) (t1 : Int) : List Value := t0.v :: vi t1 :: un 21 []
def a_field_valueOf : AFunc := ⟨23, cul9dq, [.tmp 4]⟩
theorem ok_field_valueOf : okF Tryz.prog 171 a_field_valueOf = true := by kernel_rfl
def ul9dq_1_2 {R : Type} (C : Callee) (fl k : Nat) (kr : ul9dqt0 R) : ul9dqt1 R := fun t5 h => kr t5 h
theorem ul9dq_1_2_e {R} (C fl k) (K : KF R) : (cp1 ul9dqs1 (ce C fl k cul9dq_1_2 K)) = ul9dq_1_2 C fl k (cp1 ul9dqs0 (K .ret)) := by kernel_rfl
def ul9dq_1_b {R : Type} (C : Callee) (fl k : Nat) (kn : ul9dqt2 R) (e0 : ul9dqt1 R) : ul9dqt2 R := fun t0 t1 t5 t6 h => if decide (t6 ≥ 0) = true then idx 1 t0 t6 fun p1 => ldI .i64 h p1.block p1.off fun n2 => kn t0 t1 (w64 (w64 (t5 * t1) + n2)) (w64 (t6 - 1)) h else e0 t5 h
theorem ul9dq_1_b_e {R} (C fl k) (K : KF R) : (cp4 ul9dqs2 (ce C fl k cul9dq_1_b K)) = ul9dq_1_b C fl k (cp4 ul9dqs2 (K .normal)) (cp1 ul9dqs1 (K (.exit 0))) := by kernel_rfl
def ul9dq_1_l {R : Type} (C : Callee) (fl k : Nat) (kn : ul9dqt1 R) : Nat → ul9dqt2 R
  | 0 => fun _ _ _ _ _ => none
  | m + 1 => ul9dq_1_b C fl k (ul9dq_1_l C fl k kn m) kn
theorem ul9dq_1_l_p {R} (C fl k) (K : KF R) : ∀ m, (cp4 ul9dqs2 (loopK m (kstep C fl k cul9dq_1_b 0 K))) = ul9dq_1_l C fl k (cp1 ul9dqs1 (K .normal)) m
  | 0 => by kernel_rfl
  | m + 1 => (congr1 (fun g => (cp4 ul9dqs2 (g))) (loop_ce C fl k cul9dq_1_b 0 K m)).trans ((ul9dq_1_b_e C fl k _).trans (congr1 (fun L => ul9dq_1_b C fl k L (cp1 ul9dqs1 (K .normal))) (ul9dq_1_l_p C fl k K m)))
theorem ul9dq_1_l_e {R} (C fl k) (K : KF R) : (cp4 ul9dqs2 (ce C fl k (.block 0 (.loop cul9dq_1_b)) K)) = ul9dq_1_l C fl k (cp1 ul9dqs1 (K .normal)) k := (congr1 (fun g => (cp4 ul9dqs2 (g))) (ce_loop C fl k cul9dq_1_b 0 K)).trans (ul9dq_1_l_p C fl k K k)
def ul9dq_1 {R : Type} (C : Callee) (fl k : Nat) (kr : ul9dqt0 R) : ul9dqt2 R := ul9dq_1_l C fl k (ul9dq_1_2 C fl k kr) k
theorem ul9dq_1_e {R} (C fl k) (K : KF R) : (cp4 ul9dqs2 (ce C fl k cul9dq_1 K)) = ul9dq_1 C fl k (cp1 ul9dqs0 (K .ret)) := ((congr1 (fun g => (cp4 ul9dqs2 (g))) (ce_seq C fl k _ _ K)).trans (ul9dq_1_l_e C fl k (kseq C fl k cul9dq_1_2 K))).trans (congr1 (fun L => ul9dq_1_l C fl k L k) ((congr1 (fun g => (cp1 ul9dqs1 (g))) (seq_n C fl k cul9dq_1_2 K)).trans (ul9dq_1_2_e C fl k K)))
def ul9dqF {R : Type} (C : Callee) (fl k : Nat) (kx : ul9dqt2 R)  (kr : ul9dqt0 R) : ul9dqt3 R := fun t0 t1 h => kx t0 t1 0 (w64 (((t0.l : Nat) : Int) - 1)) h
def ul9dq {R : Type} (C : Callee) (fl k : Nat) (kr : ul9dqt0 R) : ul9dqt3 R := ul9dqF C fl k (ul9dq_1 C fl k kr)  kr
theorem ul9dq_g {R} (C fl k) (cn : ACode) (K : KF R) : (cp2 ul9dqs3 (ce C fl k (gcul9dq cn) K)) = ul9dqF C fl k (cp4 ul9dqs2 (ce C fl k cn K)) (cp1 ul9dqs0 (K .ret)) := by kernel_rfl
theorem ul9dq_e {R} (C fl k) (K : KF R) : (cp2 ul9dqs3 (ce C fl k cul9dq K)) = ul9dq C fl k (cp1 ul9dqs0 (K .ret)) := (ul9dq_g C fl k cul9dq_1 K).trans (congr1 (fun L0 => ul9dqF C fl k L0 (cp1 ul9dqs0 (K .ret))) (ul9dq_1_e C fl k K))
def field_valueOf (C : Callee) (fl k : Nat) (p0 : Sl) (p1 : Int) (h : AH) : Option (Value × AH) := ul9dq C fl k (fun y4 q => some (.int .i64 y4, q)) p0 p1 h
theorem field_valueOf_run (C fl k) (p0 : Sl) (p1 : Int) (h) : runF C fl k a_field_valueOf [.slice p0.a p0.l p0.c, .int .i64 p1] h = field_valueOf C fl k p0 p1 h :=
  (runF_ce C fl k a_field_valueOf [.slice p0.a p0.l p0.c, .int .i64 p1] h cul9dq (ul9dqs3 p0 p1) rfl (by kernel_rfl)).trans ((cp2_ap ul9dqs3 (ce C fl k cul9dq (finalK a_field_valueOf.results)) p0 p1 h).symm.trans ((congrFun (congrFun (congrFun (ul9dq_e C fl k (finalK a_field_valueOf.results)) p0) p1) h).trans (show ul9dq C fl k (cp1 ul9dqs0 ((finalK a_field_valueOf.results) .ret)) p0 p1 h = field_valueOf C fl k p0 p1 h by kernel_rfl)))
def d_field_valueOf (C : Callee) (fl k : Nat) (args : List Value) (h : AH) : Option (Value × AH) := match args with
  | [.slice n0a n0l n0c, .int .i64 n1] => field_valueOf C fl k ⟨n0a, n0l, n0c⟩ n1 h
  | _ => none
theorem d_field_valueOf_run {C : Callee} {fl k : Nat} {args : List Value} {h : AH} {r : Value × AH} (e : d_field_valueOf C fl k args h = some r) : runF C fl k a_field_valueOf args h = some r := by
  unfold d_field_valueOf at e
  split at e
  · rename_i n0a n0l n0c n1; exact (field_valueOf_run C fl k ⟨n0a, n0l, n0c⟩ n1 h).trans e
  · cases e
abbrev ub17ct0 (R : Type) := Bool → AH → Option R
def ub17cs0 (t4 : Bool) : List Value := un 4 (.bool t4 :: un 100 [])
def cub17c_1_2 : ACode := .seq (.region [oI 63 (.mv (.t 1)), oI 64 (.call (.f 39) [.t 63, .f 185] (.one (.one (.int .i64)))), oI 10 (.mv (.t 64))] [63, 64]) (.seq (.region [oI 65 (.mv (.t 10)), oI 66 (.cmp .lss .i64 (.t 65) (ci 0))] [65]) (.seq (.cond (.t 66) (.seq (.region [oI 4 (.mv (.c (.bool false)))] [0, 1, 10, 66]) (.ret)) (.region [] [66])) (.seq (.region [oI 68 (.mv (.t 0)), oI 69 (.nilc (.t 68)), oI 70 (.faddr 0 (.t 69)), oJ 71 (.load (.one .nptr) (.t 70)), oI 72 (.mv (.t 1)), oI 73 (.mv (.t 10)), oI 74 (.iaddr 1 (.t 72) (.t 73)), oJ 75 (.load (.one (.int .i64)) (.t 74)), oI 76 (.call (.f 139) [.t 71, .t 75] (.tup [.one (.int .i64), .one (.int .i64)])), oI 67 (.mv (.t 76)), oI 77 (.extr (.t 67) 0), oI 78 (.extr (.t 67) 1), oI 11 (.mv (.t 77)), oI 12 (.mv (.t 78))] [12, 67, 68, 69, 70, 71, 72, 73, 74, 75, 76, 77, 78]) (.seq (.region [oI 79 (.mv (.t 0)), oI 80 (.mv (.t 0)), oI 81 (.nilc (.t 80)), oI 82 (.faddr 1 (.t 81)), oJ 83 (.load (.one .slice) (.t 82)), oI 84 (.mv (.t 0)), oI 85 (.nilc (.t 84)), oI 86 (.faddr 0 (.t 85)), oJ 87 (.load (.one .nptr) (.t 86)), oI 88 (.mv (.t 11)), oI 89 (.mv (.t 1)), oJ 90 (.call (.f 140) [.t 87, .t 88, .t 89] (.one (.one .slice))), oJ 91 (.bslice 1 [.slice none 0 0] [(0, 1, .t 90)]), oI 92 (.append 1 24 (.t 83) (.t 91)), oI 93 (.nilc (.t 79)), oI 94 (.faddr 1 (.t 93)), pI (.store 1 (.t 94) (.t 92))] [1, 11, 79, 80, 81, 82, 83, 84, 85, 86, 87, 88, 89, 90, 91, 92, 93, 94]) (.seq (.region [oI 95 (.mv (.t 0)), oI 96 (.mv (.t 0)), oI 97 (.nilc (.t 96)), oI 98 (.faddr 2 (.t 97)), oI 99 (.load (.one .slice) (.t 98)), oI 100 (.mv (.t 10)), oI 101 (.bslice 1 [.int .i64 0] [(0, 1, .t 100)]), oI 102 (.append 1 8 (.t 99) (.t 101)), oI 103 (.nilc (.t 95)), oI 104 (.faddr 2 (.t 103)), pI (.store 1 (.t 104) (.t 102))] [0, 10, 95, 96, 97, 98, 99, 100, 101, 102, 103, 104]) (.seq (.region [oI 4 (.mv (.c (.bool true)))] []) (.ret)))))))
abbrev ub17ct1 (R : Type) := OA → Sl → AH → Option R
def ub17cs1 (t0 : OA) (t1 : Sl) : List Value := vn t0 :: t1.v :: un 103 []
abbrev ub17ct2 (R : Type) := OA → Sl → Sl → Int → Int → AH → Option R
def ub17cs2 (t0 : OA) (t1 t16 : Sl) (t17 t18 : Int) : List Value := vn t0 :: t1.v :: un 14 (t16.v :: vi t17 :: vi t18 :: un 86 [])
def cub17c_1_b_3_4 : ACode := .region [oI 62 (.bin .add .i64 (.t 18) (ci 1)), oI 18 (.mv (.t 62))] [62]
abbrev ub17ct3 (R : Type) := OA → Sl → Int → Sl → Int → Int → Sl → Int → Int → AH → Option R
def ub17cs3 (t0 : OA) (t1 : Sl) (t7 : Int) (t16 : Sl) (t17 t18 : Int) (t35 : Sl) (t36 t37 : Int) : List Value := vn t0 :: t1.v :: un 5 (vi t7 :: un 8 (t16.v :: vi t17 :: vi t18 :: un 16 (t35.v :: vi t36 :: vi t37 :: un 67 [])))
def cub17c_1_b_3_u_5_t_6_b : ACode := .seq (.region [oI 38 (.cmp .lss .i64 (.t 37) (.t 36))] []) (.seq (.cond (.t 38) (.region [] [38]) (.seq (.region [] [7, 35, 36, 37, 38]) (.exit 2))) (.seq (.block 3 (.seq (.region [oI 39 (.mv (.t 37)), oI 40 (.iaddr 1 (.t 35) (.t 37)), oI 41 (.load (.one (.int .i64)) (.t 40)), oI 8 (.mv (.t 39)), oI 9 (.mv (.t 41))] [39, 40, 41]) (.region [oI 42 (.mv (.t 1)), oI 43 (.mv (.t 8)), oI 44 (.mv (.t 0)), oI 45 (.nilc (.t 44)), oI 46 (.faddr 0 (.t 45)), oJ 47 (.load (.one .nptr) (.t 46)), oI 48 (.mv (.t 1)), oI 49 (.mv (.t 8)), oI 50 (.iaddr 1 (.t 48) (.t 49)), oJ 51 (.load (.one (.int .i64)) (.t 50)), oI 52 (.mv (.t 0)), oI 53 (.nilc (.t 52)), oI 54 (.faddr 0 (.t 53)), oJ 55 (.load (.one .nptr) (.t 54)), oI 56 (.mv (.t 7)), oI 57 (.mv (.t 9)), oJ 58 (.call (.f 120) [.t 55, .t 56, .t 57] (.one (.one (.int .i64)))), oI 59 (.call (.f 119) [.t 47, .t 51, .t 58] (.one (.one (.int .i64)))), oI 60 (.iaddr 1 (.t 42) (.t 43)), pI (.store 1 (.t 60) (.t 59))] [8, 9, 42, 43, 44, 45, 46, 47, 48, 49, 50, 51, 52, 53, 54, 55, 56, 57, 58, 59, 60]))) (.region [oI 61 (.bin .add .i64 (.t 37) (ci 1)), oI 37 (.mv (.t 61))] [61])))
def cub17c_1_b_3_u_5_t_6 : ACode := .block 2 (.loop cub17c_1_b_3_u_5_t_6_b)
def gcub17c_1_b_3_u_5_t (cn : ACode) : ACode := .seq (.region [oI 35 (.mv (.t 6)), oI 36 (.len (.t 35)), oI 37 (.mv (ci 0))] [6, 34]) cn
def cub17c_1_b_3_u_5_t : ACode := gcub17c_1_b_3_u_5_t cub17c_1_b_3_u_5_t_6
abbrev ub17ct4 (R : Type) := OA → Sl → Sl → Int → Sl → Int → Int → Bool → AH → Option R
def ub17cs4 (t0 : OA) (t1 t6 : Sl) (t7 : Int) (t16 : Sl) (t17 t18 : Int) (t34 : Bool) : List Value := vn t0 :: t1.v :: un 4 (t6.v :: vi t7 :: un 8 (t16.v :: vi t17 :: vi t18 :: un 15 (.bool t34 :: un 70 [])))
def gcub17c_1_b_3_u_5 (cu0 : ACode) : ACode := .cond (.t 34) cu0 (.region [] [6, 7, 34])
def cub17c_1_b_3_u_5 : ACode := gcub17c_1_b_3_u_5 cub17c_1_b_3_u_5_t
def gcub17c_1_b_3_u (cn : ACode) : ACode := .seq (.seq (.region [oI 20 (.mv (.t 18)), oI 21 (.iaddr 1 (.t 16) (.t 18)), oI 22 (.load (.one .slice) (.t 21)), oI 5 (.mv (.t 20)), oI 6 (.mv (.t 22))] [20, 21, 22]) (.seq (.region [oI 23 (.mv (.t 1)), oI 24 (.mv (.t 0)), oI 25 (.nilc (.t 24)), oI 26 (.faddr 2 (.t 25)), oI 27 (.load (.one .slice) (.t 26)), oI 28 (.mv (.t 5)), oI 29 (.iaddr 1 (.t 27) (.t 28)), oI 30 (.load (.one (.int .i64)) (.t 29)), oI 31 (.iaddr 1 (.t 23) (.t 30)), oI 32 (.load (.one (.int .i64)) (.t 31)), oI 7 (.mv (.t 32))] [5, 23, 24, 25, 26, 27, 28, 29, 30, 31, 32]) (.region [oI 33 (.mv (.t 7)), oI 34 (.cmp .neq .i64 (.t 33) (ci 0))] [33]))) cn
def cub17c_1_b_3_u : ACode := gcub17c_1_b_3_u cub17c_1_b_3_u_5
def gcub17c_1_b_3 (cn cu0 : ACode) : ACode := .seq (.block 1 cu0) cn
def cub17c_1_b_3 : ACode := gcub17c_1_b_3 cub17c_1_b_3_4 cub17c_1_b_3_u
def gcub17c_1_b (cn : ACode) : ACode := .seq (.seq (.region [oI 19 (.cmp .lss .i64 (.t 18) (.t 17))] []) (.cond (.t 19) (.region [] [19]) (.seq (.region [] [16, 17, 18, 19]) (.exit 0)))) cn
def cub17c_1_b : ACode := gcub17c_1_b cub17c_1_b_3
def cub17c_1 : ACode := .seq (.block 0 (.loop cub17c_1_b)) cub17c_1_2
def gcub17c (cn : ACode) : ACode := .seq (.seq (.region [oI 4 (.mv (.c (.bool false)))] [4]) (.region [oI 13 (.mv (.t 0)), oI 14 (.nilc (.t 13)), oI 15 (.faddr 1 (.t 14)), oI 16 (.load (.one .slice) (.t 15)), oI 17 (.len (.t 16)), oI 18 (.mv (ci 0))] [13, 14, 15])) cn
def cub17c : ACode := gcub17c cub17c_1
def a_exclusion_basis_add : AFunc := ⟨105, cub17c, [.tmp 4]⟩
theorem ok_exclusion_basis_add : okF Tryz.prog 175 a_exclusion_basis_add = true := by kernel_rfl
def ub17c_1_2 {R : Type} (C : Callee) (fl k : Nat) (kr : ub17ct0 R) : ub17ct1 R := fun t0 t1 h => callF C fl fn.slices_IndexFunc_39 [.slice t1.a t1.l t1.c, .func (.func fn.exclusion_basis_add_1) ⟨[]⟩ ⟨[]⟩] h fun v1 h2 => asInt .i64 v1 fun n3 => if decide (n3 < 0) = true then kr false h2 else asPtr (.pointer t0) fun p4 => ldN h2 p4.block p4.off fun p5 => idx 1 t1 n3 fun p6 => ldI .i64 h2 p6.block p6.off fun n7 => callF C fl fn.field_GF_Inv [.pointer p5, .int .i64 n7] h2 fun v8 h9 => asTup v8 fun l10 => ucons l10 fun v11 l12 => asInt .i64 v11 fun n13 => ucons l12 fun v14 l15 => asInt .i64 v14 fun n16 => unil l15 (asPtr (.pointer t0) fun p17 => ldS h9 p17.block (p17.off + 1) fun s18 => asPtr (.pointer t0) fun p19 => ldN h9 p19.block p19.off fun p20 => callF C h9.next fn.field_GF_Scale [.pointer p20, .int .i64 n13, .slice t1.a t1.l t1.c] h9 fun v21 h22 => asSl v21 fun s23 => alc h22 [.slice s23.a s23.l s23.c] fun b24 h25 => apnd fl 1 24 s18 ⟨(some ⟨b24, 0, none⟩), 1, 1⟩ h25 fun s26 h27 => asPtr (.pointer t0) fun p28 => st fl h27 ⟨p28.block, p28.off + 1, none⟩ [.slice s26.a s26.l s26.c] fun h29 => asPtr (.pointer t0) fun p30 => ldS h29 p30.block (p30.off + 2) fun s31 => alc h29 [.int .i64 n3] fun b32 h33 => apnd fl 1 8 s31 ⟨(some ⟨b32, 0, none⟩), 1, 1⟩ h33 fun s34 h35 => asPtr (.pointer t0) fun p36 => st fl h35 ⟨p36.block, p36.off + 2, none⟩ [.slice s34.a s34.l s34.c] fun h37 => kr true h37)
theorem ub17c_1_2_e {R} (C fl k) (K : KF R) : (cp2 ub17cs1 (ce C fl k cub17c_1_2 K)) = ub17c_1_2 C fl k (cp1 ub17cs0 (K .ret)) := by kernel_rfl
def ub17c_1_b_3_4 {R : Type} (C : Callee) (fl k : Nat) (kn : ub17ct2 R) (e0 : ub17ct1 R) : ub17ct2 R := fun t0 t1 t16 t17 t18 h => kn t0 t1 t16 t17 (w64 (t18 + 1)) h
theorem ub17c_1_b_3_4_e {R} (C fl k) (K : KF R) : (cp5 ub17cs2 (ce C fl k cub17c_1_b_3_4 K)) = ub17c_1_b_3_4 C fl k (cp5 ub17cs2 (K .normal)) (cp2 ub17cs1 (K (.exit 0))) := by kernel_rfl
def ub17c_1_b_3_u_5_t_6_b {R : Type} (C : Callee) (fl k : Nat) (kn : ub17ct3 R) (e2 : ub17ct2 R) : ub17ct3 R := fun t0 t1 t7 t16 t17 t18 t35 t36 t37 h => if decide (t37 < t36) = true then idx 1 t35 t37 fun p38 => ldI .i64 h p38.block p38.off fun n39 => asPtr (.pointer t0) fun p40 => ldN h p40.block p40.off fun p41 => idx 1 t1 t37 fun p42 => ldI .i64 h p42.block p42.off fun n43 => asPtr (.pointer t0) fun p44 => ldN h p44.block p44.off fun p45 => callF C h.next fn.field_GF_Mul [.pointer p45, .int .i64 t7, .int .i64 n39] h fun v46 h47 => asInt .i64 v46 fun n48 => callF C fl fn.field_GF_Sub [.pointer p41, .int .i64 n43, .int .i64 n48] h47 fun v49 h50 => asInt .i64 v49 fun n51 => idx 1 t1 t37 fun p52 => st fl h50 p52 [.int .i64 n51] fun h53 => kn t0 t1 t7 t16 t17 t18 t35 t36 (w64 (t37 + 1)) h53 else e2 t0 t1 t16 t17 t18 h
theorem ub17c_1_b_3_u_5_t_6_b_e {R} (C fl k) (K : KF R) : (cp9 ub17cs3 (ce C fl k cub17c_1_b_3_u_5_t_6_b K)) = ub17c_1_b_3_u_5_t_6_b C fl k (cp9 ub17cs3 (K .normal)) (cp5 ub17cs2 (K (.exit 2))) := by kernel_rfl
def ub17c_1_b_3_u_5_t_6_l {R : Type} (C : Callee) (fl k : Nat) (kn : ub17ct2 R) : Nat → ub17ct3 R
  | 0 => fun _ _ _ _ _ _ _ _ _ _ => none
  | m + 1 => ub17c_1_b_3_u_5_t_6_b C fl k (ub17c_1_b_3_u_5_t_6_l C fl k kn m) kn
theorem ub17c_1_b_3_u_5_t_6_l_p {R} (C fl k) (K : KF R) : ∀ m, (cp9 ub17cs3 (loopK m (kstep C fl k cub17c_1_b_3_u_5_t_6_b 2 K))) = ub17c_1_b_3_u_5_t_6_l C fl k (cp5 ub17cs2 (K .normal)) m
  | 0 => by kernel_rfl
  | m + 1 => (congr1 (fun g => (cp9 ub17cs3 (g))) (loop_ce C fl k cub17c_1_b_3_u_5_t_6_b 2 K m)).trans ((ub17c_1_b_3_u_5_t_6_b_e C fl k _).trans (congr1 (fun L => ub17c_1_b_3_u_5_t_6_b C fl k L (cp5 ub17cs2 (K .normal))) (ub17c_1_b_3_u_5_t_6_l_p C fl k K m)))
theorem ub17c_1_b_3_u_5_t_6_l_e {R} (C fl k) (K : KF R) : (cp9 ub17cs3 (ce C fl k (.block 2 (.loop cub17c_1_b_3_u_5_t_6_b)) K)) = ub17c_1_b_3_u_5_t_6_l C fl k (cp5 ub17cs2 (K .normal)) k := (congr1 (fun g => (cp9 ub17cs3 (g))) (ce_loop C fl k cub17c_1_b_3_u_5_t_6_b 2 K)).trans (ub17c_1_b_3_u_5_t_6_l_p C fl k K k)
def ub17c_1_b_3_u_5_t_6 {R : Type} (C : Callee) (fl k : Nat) (kn : ub17ct2 R) : ub17ct3 R := ub17c_1_b_3_u_5_t_6_l C fl k kn k
theorem ub17c_1_b_3_u_5_t_6_e {R} (C fl k) (K : KF R) : (cp9 ub17cs3 (ce C fl k cub17c_1_b_3_u_5_t_6 K)) = ub17c_1_b_3_u_5_t_6 C fl k (cp5 ub17cs2 (K .normal)) := ub17c_1_b_3_u_5_t_6_l_e C fl k K
def ub17c_1_b_3_u_5_tF {R : Type} (C : Callee) (fl k : Nat) (kx : ub17ct3 R)  (kn : ub17ct2 R) : ub17ct4 R := fun t0 t1 t6 t7 t16 t17 t18 t34 h => kx t0 t1 t7 t16 t17 t18 t6 ((t6.l : Nat) : Int) 0 h
def ub17c_1_b_3_u_5_t {R : Type} (C : Callee) (fl k : Nat) (kn : ub17ct2 R) : ub17ct4 R := ub17c_1_b_3_u_5_tF C fl k (ub17c_1_b_3_u_5_t_6 C fl k kn)  kn
theorem ub17c_1_b_3_u_5_t_g {R} (C fl k) (cn : ACode) (K : KF R) : (cp8 ub17cs4 (ce C fl k (gcub17c_1_b_3_u_5_t cn) K)) = ub17c_1_b_3_u_5_tF C fl k (cp9 ub17cs3 (ce C fl k cn K)) (cp5 ub17cs2 (K .normal)) := by kernel_rfl
theorem ub17c_1_b_3_u_5_t_e {R} (C fl k) (K : KF R) : (cp8 ub17cs4 (ce C fl k cub17c_1_b_3_u_5_t K)) = ub17c_1_b_3_u_5_t C fl k (cp5 ub17cs2 (K .normal)) := (ub17c_1_b_3_u_5_t_g C fl k cub17c_1_b_3_u_5_t_6 K).trans (congr1 (fun L0 => ub17c_1_b_3_u_5_tF C fl k L0 (cp5 ub17cs2 (K .normal))) (ub17c_1_b_3_u_5_t_6_e C fl k K))
def ub17c_1_b_3_u_5F {R : Type} (C : Callee) (fl k : Nat)  (u0 : ub17ct4 R) (kn : ub17ct2 R) : ub17ct4 R := fun t0 t1 t6 t7 t16 t17 t18 t34 h => if t34 = true then u0 t0 t1 t6 t7 t16 t17 t18 t34 h else kn t0 t1 t16 t17 t18 h
def ub17c_1_b_3_u_5 {R : Type} (C : Callee) (fl k : Nat) (kn : ub17ct2 R) : ub17ct4 R := ub17c_1_b_3_u_5F C fl k  (ub17c_1_b_3_u_5_t C fl k kn) kn
theorem ub17c_1_b_3_u_5_g {R} (C fl k) (cu0 : ACode) (K : KF R) : (cp8 ub17cs4 (ce C fl k (gcub17c_1_b_3_u_5 cu0) K)) = ub17c_1_b_3_u_5F C fl k (cp8 ub17cs4 (ce C fl k cu0 K)) (cp5 ub17cs2 (K .normal)) := by kernel_rfl
theorem ub17c_1_b_3_u_5_e {R} (C fl k) (K : KF R) : (cp8 ub17cs4 (ce C fl k cub17c_1_b_3_u_5 K)) = ub17c_1_b_3_u_5 C fl k (cp5 ub17cs2 (K .normal)) := (ub17c_1_b_3_u_5_g C fl k cub17c_1_b_3_u_5_t K).trans (congr1 (fun L0 => ub17c_1_b_3_u_5F C fl k L0 (cp5 ub17cs2 (K .normal))) (ub17c_1_b_3_u_5_t_e C fl k K))
def ub17c_1_b_3_uF {R : Type} (C : Callee) (fl k : Nat) (kx : ub17ct4 R)  (kn : ub17ct2 R) : ub17ct2 R := fun t0 t1 t16 t17 t18 h => idx 1 t16 t18 fun p54 => ldS h p54.block p54.off fun s55 => asPtr (.pointer t0) fun p56 => ldS h p56.block (p56.off + 2) fun s57 => idx 1 s57 t18 fun p58 => ldI .i64 h p58.block p58.off fun n59 => idx 1 t1 n59 fun p60 => ldI .i64 h p60.block p60.off fun n61 => kx t0 t1 s55 n61 t16 t17 t18 (n61 != 0) h
def ub17c_1_b_3_u {R : Type} (C : Callee) (fl k : Nat) (kn : ub17ct2 R) : ub17ct2 R := ub17c_1_b_3_uF C fl k (ub17c_1_b_3_u_5 C fl k kn)  kn
theorem ub17c_1_b_3_u_g {R} (C fl k) (cn : ACode) (K : KF R) : (cp5 ub17cs2 (ce C fl k (gcub17c_1_b_3_u cn) K)) = ub17c_1_b_3_uF C fl k (cp8 ub17cs4 (ce C fl k cn K)) (cp5 ub17cs2 (K .normal)) := by kernel_rfl
theorem ub17c_1_b_3_u_e {R} (C fl k) (K : KF R) : (cp5 ub17cs2 (ce C fl k cub17c_1_b_3_u K)) = ub17c_1_b_3_u C fl k (cp5 ub17cs2 (K .normal)) := (ub17c_1_b_3_u_g C fl k cub17c_1_b_3_u_5 K).trans (congr1 (fun L0 => ub17c_1_b_3_uF C fl k L0 (cp5 ub17cs2 (K .normal))) (ub17c_1_b_3_u_5_e C fl k K))
def ub17c_1_b_3F {R : Type} (C : Callee) (fl k : Nat) (kx : ub17ct2 R) (u0 : ub17ct2 R) (kn : ub17ct2 R) (e0 : ub17ct1 R) : ub17ct2 R := fun t0 t1 t16 t17 t18 h => u0 t0 t1 t16 t17 t18 h
def ub17c_1_b_3 {R : Type} (C : Callee) (fl k : Nat) (kn : ub17ct2 R) (e0 : ub17ct1 R) : ub17ct2 R := ub17c_1_b_3F C fl k (ub17c_1_b_3_4 C fl k kn e0) (ub17c_1_b_3_u C fl k (ub17c_1_b_3_4 C fl k kn e0)) kn e0
theorem ub17c_1_b_3_g {R} (C fl k) (cn cu0 : ACode) (K : KF R) : (cp5 ub17cs2 (ce C fl k (gcub17c_1_b_3 cn cu0) K)) = ub17c_1_b_3F C fl k (cp5 ub17cs2 (ce C fl k cn K)) (cp5 ub17cs2 (ce C fl k cu0 (kblk 1 (kseq C fl k cn K)))) (cp5 ub17cs2 (K .normal)) (cp2 ub17cs1 (K (.exit 0))) := by kernel_rfl
theorem ub17c_1_b_3_e {R} (C fl k) (K : KF R) : (cp5 ub17cs2 (ce C fl k cub17c_1_b_3 K)) = ub17c_1_b_3 C fl k (cp5 ub17cs2 (K .normal)) (cp2 ub17cs1 (K (.exit 0))) := (ub17c_1_b_3_g C fl k cub17c_1_b_3_4 cub17c_1_b_3_u K).trans (congr2 (fun L0 L1 => ub17c_1_b_3F C fl k L0 L1 (cp5 ub17cs2 (K .normal)) (cp2 ub17cs1 (K (.exit 0)))) (ub17c_1_b_3_4_e C fl k K) ((ub17c_1_b_3_u_e C fl k (kblk 1 (kseq C fl k cub17c_1_b_3_4 K))).trans (congr1 (fun L0 => ub17c_1_b_3_u C fl k L0) ((congr1 (fun g => (cp5 ub17cs2 (g))) (blk_n C fl k cub17c_1_b_3_4 1 K)).trans (ub17c_1_b_3_4_e C fl k K)))))
def ub17c_1_bF {R : Type} (C : Callee) (fl k : Nat) (kx : ub17ct2 R)  (kn : ub17ct2 R) (e0 : ub17ct1 R) : ub17ct2 R := fun t0 t1 t16 t17 t18 h => if decide (t18 < t17) = true then kx t0 t1 t16 t17 t18 h else e0 t0 t1 h
def ub17c_1_b {R : Type} (C : Callee) (fl k : Nat) (kn : ub17ct2 R) (e0 : ub17ct1 R) : ub17ct2 R := ub17c_1_bF C fl k (ub17c_1_b_3 C fl k kn e0)  kn e0
theorem ub17c_1_b_g {R} (C fl k) (cn : ACode) (K : KF R) : (cp5 ub17cs2 (ce C fl k (gcub17c_1_b cn) K)) = ub17c_1_bF C fl k (cp5 ub17cs2 (ce C fl k cn K)) (cp5 ub17cs2 (K .normal)) (cp2 ub17cs1 (K (.exit 0))) := by kernel_rfl
theorem ub17c_1_b_e {R} (C fl k) (K : KF R) : (cp5 ub17cs2 (ce C fl k cub17c_1_b K)) = ub17c_1_b C fl k (cp5 ub17cs2 (K .normal)) (cp2 ub17cs1 (K (.exit 0))) := (ub17c_1_b_g C fl k cub17c_1_b_3 K).trans (congr1 (fun L0 => ub17c_1_bF C fl k L0 (cp5 ub17cs2 (K .normal)) (cp2 ub17cs1 (K (.exit 0)))) (ub17c_1_b_3_e C fl k K))
def ub17c_1_l {R : Type} (C : Callee) (fl k : Nat) (kn : ub17ct1 R) : Nat → ub17ct2 R
  | 0 => fun _ _ _ _ _ _ => none
  | m + 1 => ub17c_1_b C fl k (ub17c_1_l C fl k kn m) kn
theorem ub17c_1_l_p {R} (C fl k) (K : KF R) : ∀ m, (cp5 ub17cs2 (loopK m (kstep C fl k cub17c_1_b 0 K))) = ub17c_1_l C fl k (cp2 ub17cs1 (K .normal)) m
  | 0 => by kernel_rfl
  | m + 1 => (congr1 (fun g => (cp5 ub17cs2 (g))) (loop_ce C fl k cub17c_1_b 0 K m)).trans ((ub17c_1_b_e C fl k _).trans (congr1 (fun L => ub17c_1_b C fl k L (cp2 ub17cs1 (K .normal))) (ub17c_1_l_p C fl k K m)))
theorem ub17c_1_l_e {R} (C fl k) (K : KF R) : (cp5 ub17cs2 (ce C fl k (.block 0 (.loop cub17c_1_b)) K)) = ub17c_1_l C fl k (cp2 ub17cs1 (K .normal)) k := (congr1 (fun g => (cp5 ub17cs2 (g))) (ce_loop C fl k cub17c_1_b 0 K)).trans (ub17c_1_l_p C fl k K k)
def ub17c_1 {R : Type} (C : Callee) (fl k : Nat) (kr : ub17ct0 R) : ub17ct2 R := ub17c_1_l C fl k (ub17c_1_2 C fl k kr) k
theorem ub17c_1_e {R} (C fl k) (K : KF R) : (cp5 ub17cs2 (ce C fl k cub17c_1 K)) = ub17c_1 C fl k (cp1 ub17cs0 (K .ret)) := ((congr1 (fun g => (cp5 ub17cs2 (g))) (ce_seq C fl k _ _ K)).trans (ub17c_1_l_e C fl k (kseq C fl k cub17c_1_2 K))).trans (congr1 (fun L => ub17c_1_l C fl k L k) ((congr1 (fun g => (cp2 ub17cs1 (g))) (seq_n C fl k cub17c_1_2 K)).trans (ub17c_1_2_e C fl k K)))
def ub17cF {R : Type} (C : Callee) (fl k : Nat) (kx : ub17ct2 R)  (kr : ub17ct0 R) : ub17ct1 R := fun t0 t1 h => asPtr (.pointer t0) fun p62 => ldS h p62.block (p62.off + 1) fun s63 => kx t0 t1 s63 ((s63.l : Nat) : Int) 0 h
def ub17c {R : Type} (C : Callee) (fl k : Nat) (kr : ub17ct0 R) : ub17ct1 R := ub17cF C fl k (ub17c_1 C fl k kr)  kr
theorem ub17c_g {R} (C fl k) (cn : ACode) (K : KF R) : (cp2 ub17cs1 (ce C fl k (gcub17c cn) K)) = ub17cF C fl k (cp5 ub17cs2 (ce C fl k cn K)) (cp1 ub17cs0 (K .ret)) := by kernel_rfl
theorem ub17c_e {R} (C fl k) (K : KF R) : (cp2 ub17cs1 (ce C fl k cub17c K)) = ub17c C fl k (cp1 ub17cs0 (K .ret)) := (ub17c_g C fl k cub17c_1 K).trans (congr1 (fun L0 => ub17cF C fl k L0 (cp1 ub17cs0 (K .ret))) (ub17c_1_e C fl k K))
def exclusion_basis_add (C : Callee) (fl k : Nat) (p0 : OA) (p1 : Sl) (h : AH) : Option (Value × AH) := ub17c C fl k (fun y4 q => some (.bool y4, q)) p0 p1 h
theorem exclusion_basis_add_run (C fl k) (p0 : OA) (p1 : Sl) (h) : runF C fl k a_exclusion_basis_add [.pointer p0, .slice p1.a p1.l p1.c] h = exclusion_basis_add C fl k p0 p1 h :=
  (runF_ce C fl k a_exclusion_basis_add [.pointer p0, .slice p1.a p1.l p1.c] h cub17c (ub17cs1 p0 p1) rfl (by kernel_rfl)).trans ((cp2_ap ub17cs1 (ce C fl k cub17c (finalK a_exclusion_basis_add.results)) p0 p1 h).symm.trans ((congrFun (congrFun (congrFun (ub17c_e C fl k (finalK a_exclusion_basis_add.results)) p0) p1) h).trans (show ub17c C fl k (cp1 ub17cs0 ((finalK a_exclusion_basis_add.results) .ret)) p0 p1 h = exclusion_basis_add C fl k p0 p1 h by kernel_rfl)))
def d_exclusion_basis_add (C : Callee) (fl k : Nat) (args : List Value) (h : AH) : Option (Value × AH) := match args with
  | [.pointer n0, .slice n1a n1l n1c] => exclusion_basis_add C fl k n0 ⟨n1a, n1l, n1c⟩ h
  | _ => none
theorem d_exclusion_basis_add_run {C : Callee} {fl k : Nat} {args : List Value} {h : AH} {r : Value × AH} (e : d_exclusion_basis_add C fl k args h = some r) : runF C fl k a_exclusion_basis_add args h = some r := by
  unfold d_exclusion_basis_add at e
  split at e
  · rename_i n0 n1a n1l n1c; exact (exclusion_basis_add_run C fl k n0 ⟨n1a, n1l, n1c⟩ h).trans e
  · cases e
abbrev ujqt4t0 (R : Type) := Sl → AH → Option R
def ujqt4s0 (t4 : Sl) : List Value := un 4 (t4.v :: un 30 [])
def cujqt4_1_2 : ACode := .seq (.region [oI 34 (.mv (.t 5)), oI 4 (.mv (.t 34))] [5, 34]) (.ret)
abbrev ujqt4t1 (R : Type) := Sl → AH → Option R
def ujqt4s1 (t5 : Sl) : List Value := un 5 (t5.v :: un 29 [])
abbrev ujqt4t2 (R : Type) := Int → Sl → Sl → Int → Int → AH → Option R
def ujqt4s2 (t1 : Int) (t5 t19 : Sl) (t20 t21 : Int) : List Value := un 1 (vi t1 :: un 3 (t5.v :: un 13 (t19.v :: vi t20 :: vi t21 :: un 13 [])))
def cujqt4_1_b : ACode := .seq (.region [oI 22 (.cmp .lss .i64 (.t 21) (.t 20))] []) (.seq (.cond (.t 22) (.region [] [22]) (.seq (.region [] [1, 19, 20, 21, 22]) (.exit 0))) (.seq (.block 1 (.seq (.region [oI 23 (.mv (.t 21)), oI 24 (.iaddr 1 (.t 19) (.t 21)), oI 25 (.load (.one .slice) (.t 24)), oI 6 (.mv (.t 23)), oI 7 (.mv (.t 25))] [23, 24, 25]) (.region [oI 26 (.mv (.t 5)), oI 27 (.mv (.t 6)), oI 28 (.mv (.t 7)), oI 29 (.mv (.t 1)), oI 30 (.iaddr 1 (.t 28) (.t 29)), oI 31 (.load (.one (.int .i64)) (.t 30)), oI 32 (.iaddr 1 (.t 26) (.t 27)), pI (.store 1 (.t 32) (.t 31))] [6, 7, 26, 27, 28, 29, 30, 31, 32]))) (.region [oI 33 (.bin .add .i64 (.t 21) (ci 1)), oI 21 (.mv (.t 33))] [33])))
def cujqt4_1 : ACode := .seq (.block 0 (.loop cujqt4_1_b)) cujqt4_1_2
def gcujqt4 (cn : ACode) : ACode := .seq (.seq (.region [oI 4 (.mv (.c (.slice none 0 0)))] [4]) (.seq (.region [oI 8 (.mv (.t 0)), oI 9 (.nilc (.t 8)), oI 10 (.faddr 1 (.t 9)), oI 11 (.faddr 4 (.t 10)), oI 12 (.load (.one .slice) (.t 11)), oI 13 (.len (.t 12)), oI 14 (.mkslice 8 [.int .i64 0] (.t 13) (.t 13)), oI 5 (.mv (.t 14))] [8, 9, 10, 11, 12, 13, 14]) (.region [oI 15 (.mv (.t 0)), oI 16 (.nilc (.t 15)), oI 17 (.faddr 1 (.t 16)), oI 18 (.faddr 4 (.t 17)), oI 19 (.load (.one .slice) (.t 18)), oI 20 (.len (.t 19)), oI 21 (.mv (ci 0))] [0, 15, 16, 17, 18]))) cn
def cujqt4 : ACode := gcujqt4 cujqt4_1
abbrev ujqt4t3 (R : Type) := OA → Int → AH → Option R
def ujqt4s3 (t0 : OA) (t1 : Int) : List Value := vn t0 :: vi t1 :: un 33 []
def a_exclusion_proof_column : AFunc := ⟨35, cujqt4, [.tmp 4]⟩
theorem ok_exclusion_proof_column : okF Tryz.prog 176 a_exclusion_proof_column = true := by kernel_rfl
def ujqt4_1_2 {R : Type} (C : Callee) (fl k : Nat) (kr : ujqt4t0 R) : ujqt4t1 R := fun t5 h => kr t5 h
theorem ujqt4_1_2_e {R} (C fl k) (K : KF R) : (cp1 ujqt4s1 (ce C fl k cujqt4_1_2 K)) = ujqt4_1_2 C fl k (cp1 ujqt4s0 (K .ret)) := by kernel_rfl
def ujqt4_1_b {R : Type} (C : Callee) (fl k : Nat) (kn : ujqt4t2 R) (e0 : ujqt4t1 R) : ujqt4t2 R := fun t1 t5 t19 t20 t21 h => if decide (t21 < t20) = true then idx 1 t19 t21 fun p1 => ldS h p1.block p1.off fun s2 => idx 1 s2 t1 fun p3 => ldI .i64 h p3.block p3.off fun n4 => idx 1 t5 t21 fun p5 => st fl h p5 [.int .i64 n4] fun h6 => kn t1 t5 t19 t20 (w64 (t21 + 1)) h6 else e0 t5 h
theorem ujqt4_1_b_e {R} (C fl k) (K : KF R) : (cp5 ujqt4s2 (ce C fl k cujqt4_1_b K)) = ujqt4_1_b C fl k (cp5 ujqt4s2 (K .normal)) (cp1 ujqt4s1 (K (.exit 0))) := by kernel_rfl
def ujqt4_1_l {R : Type} (C : Callee) (fl k : Nat) (kn : ujqt4t1 R) : Nat → ujqt4t2 R
  | 0 => fun _ _ _ _ _ _ => none
  | m + 1 => ujqt4_1_b C fl k (ujqt4_1_l C fl k kn m) kn
theorem ujqt4_1_l_p {R} (C fl k) (K : KF R) : ∀ m, (cp5 ujqt4s2 (loopK m (kstep C fl k cujqt4_1_b 0 K))) = ujqt4_1_l C fl k (cp1 ujqt4s1 (K .normal)) m
  | 0 => by kernel_rfl
  | m + 1 => (congr1 (fun g => (cp5 ujqt4s2 (g))) (loop_ce C fl k cujqt4_1_b 0 K m)).trans ((ujqt4_1_b_e C fl k _).trans (congr1 (fun L => ujqt4_1_b C fl k L (cp1 ujqt4s1 (K .normal))) (ujqt4_1_l_p C fl k K m)))
theorem ujqt4_1_l_e {R} (C fl k) (K : KF R) : (cp5 ujqt4s2 (ce C fl k (.block 0 (.loop cujqt4_1_b)) K)) = ujqt4_1_l C fl k (cp1 ujqt4s1 (K .normal)) k := (congr1 (fun g => (cp5 ujqt4s2 (g))) (ce_loop C fl k cujqt4_1_b 0 K)).trans (ujqt4_1_l_p C fl k K k)
def ujqt4_1 {R : Type} (C : Callee) (fl k : Nat) (kr : ujqt4t0 R) : ujqt4t2 R := ujqt4_1_l C fl k (ujqt4_1_2 C fl k kr) k
theorem ujqt4_1_e {R} (C fl k) (K : KF R) : (cp5 ujqt4s2 (ce C fl k cujqt4_1 K)) = ujqt4_1 C fl k (cp1 ujqt4s0 (K .ret)) := ((congr1 (fun g => (cp5 ujqt4s2 (g))) (ce_seq C fl k _ _ K)).trans (ujqt4_1_l_e C fl k (kseq C fl k cujqt4_1_2 K))).trans (congr1 (fun L => ujqt4_1_l C fl k L k) ((congr1 (fun g => (cp1 ujqt4s1 (g))) (seq_n C fl k cujqt4_1_2 K)).trans (ujqt4_1_2_e C fl k K)))
def ujqt4F {R : Type} (C : Callee) (fl k : Nat) (kx : ujqt4t2 R)  (kr : ujqt4t0 R) : ujqt4t3 R := fun t0 t1 h => asPtr (.pointer t0) fun p7 => ldS h p7.block (p7.off + 1 + 4) fun s8 => mkSl 8 [.int .i64 0] ((s8.l : Nat) : Int) ((s8.l : Nat) : Int) h fun s9 h10 => asPtr (.pointer t0) fun p11 => ldS h10 p11.block (p11.off + 1 + 4) fun s12 => kx t1 s9 s12 ((s12.l : Nat) : Int) 0 h10
def ujqt4 {R : Type} (C : Callee) (fl k : Nat) (kr : ujqt4t0 R) : ujqt4t3 R := ujqt4F C fl k (ujqt4_1 C fl k kr)  kr
theorem ujqt4_g {R} (C fl k) (cn : ACode) (K : KF R) : (cp2 ujqt4s3 (ce C fl k (gcujqt4 cn) K)) = ujqt4F C fl k (cp5 ujqt4s2 (ce C fl k cn K)) (cp1 ujqt4s0 (K .ret)) := by kernel_rfl
theorem ujqt4_e {R} (C fl k) (K : KF R) : (cp2 ujqt4s3 (ce C fl k cujqt4 K)) = ujqt4 C fl k (cp1 ujqt4s0 (K .ret)) := (ujqt4_g C fl k cujqt4_1 K).trans (congr1 (fun L0 => ujqt4F C fl k L0 (cp1 ujqt4s0 (K .ret))) (ujqt4_1_e C fl k K))
def exclusion_proof_column (C : Callee) (fl k : Nat) (p0 : OA) (p1 : Int) (h : AH) : Option (Value × AH) := ujqt4 C fl k (fun y4 q => some (.slice y4.a y4.l y4.c, q)) p0 p1 h
theorem exclusion_proof_column_run (C fl k) (p0 : OA) (p1 : Int) (h) : runF C fl k a_exclusion_proof_column [.pointer p0, .int .i64 p1] h = exclusion_proof_column C fl k p0 p1 h :=
  (runF_ce C fl k a_exclusion_proof_column [.pointer p0, .int .i64 p1] h cujqt4 (ujqt4s3 p0 p1) rfl (by kernel_rfl)).trans ((cp2_ap ujqt4s3 (ce C fl k cujqt4 (finalK a_exclusion_proof_column.results)) p0 p1 h).symm.trans ((congrFun (congrFun (congrFun (ujqt4_e C fl k (finalK a_exclusion_proof_column.results)) p0) p1) h).trans (show ujqt4 C fl k (cp1 ujqt4s0 ((finalK a_exclusion_proof_column.results) .ret)) p0 p1 h = exclusion_proof_column C fl k p0 p1 h by kernel_rfl)))
def d_exclusion_proof_column (C : Callee) (fl k : Nat) (args : List Value) (h : AH) : Option (Value × AH) := match args with
  | [.pointer n0, .int .i64 n1] => exclusion_proof_column C fl k n0 n1 h
  | _ => none
theorem d_exclusion_proof_column_run {C : Callee} {fl k : Nat} {args : List Value} {h : AH} {r : Value × AH} (e : d_exclusion_proof_column C fl k args h = some r) : runF C fl k a_exclusion_proof_column args h = some r := by
  unfold d_exclusion_proof_column at e
  split at e
  · rename_i n0 n1; exact (exclusion_proof_column_run C fl k n0 n1 h).trans e
  · cases e
abbrev u2yt0t0 (R : Type) := Sl → AH → Option R
def u2yt0s0 (t2 : Sl) : List Value := un 2 (t2.v :: un 6 [])
def cu2yt0 : ACode := .seq (.region [oI 2 (.mv (.c (.slice none 0 0)))] [2]) (.seq (.region [oI 4 (.mv (.t 0)), oI 5 (.call (.f 186) [.t 4] (.one (.one .slice))), oI 3 (.mv (.t 5))] [0, 4, 5]) (.seq (.region [oI 6 (.mv (.t 3)), oI 7 (.call (.f 160) [.t 6] (.tup []))] [6, 7]) (.seq (.region [oI 8 (.mv (.t 3)), oI 2 (.mv (.t 8))] [3, 8]) (.ret))))
abbrev u2yt0t1 (R : Type) := Value → AH → Option R
def u2yt0s1 (t0 : Value) : List Value := t0 :: un 8 []
def a_slices_Sorted : AFunc := ⟨9, cu2yt0, [.tmp 2]⟩
theorem ok_slices_Sorted : okF Tryz.prog 177 a_slices_Sorted = true := by kernel_rfl
def u2yt0 {R : Type} (C : Callee) (fl k : Nat) (kr : u2yt0t0 R) : u2yt0t1 R := fun t0 h => callF C fl fn.slices_Collect [t0] h fun v1 h2 => asSl v1 fun s3 => callF C fl fn.slices_Sort [.slice s3.a s3.l s3.c] h2 fun v4 h5 => asTup v4 fun l6 => unil l6 (kr s3 h5)
theorem u2yt0_e {R} (C fl k) (K : KF R) : (cp1 u2yt0s1 (ce C fl k cu2yt0 K)) = u2yt0 C fl k (cp1 u2yt0s0 (K .ret)) := by kernel_rfl
def slices_Sorted (C : Callee) (fl k : Nat) (p0 : Value) (h : AH) : Option (Value × AH) := u2yt0 C fl k (fun y2 q => some (.slice y2.a y2.l y2.c, q)) p0 h
theorem slices_Sorted_run (C fl k) (p0 : Value) (h) : runF C fl k a_slices_Sorted [p0] h = slices_Sorted C fl k p0 h :=
  (runF_ce C fl k a_slices_Sorted [p0] h cu2yt0 (u2yt0s1 p0) rfl (by kernel_rfl)).trans ((cp1_ap u2yt0s1 (ce C fl k cu2yt0 (finalK a_slices_Sorted.results)) p0 h).symm.trans ((congrFun (congrFun (u2yt0_e C fl k (finalK a_slices_Sorted.results)) p0) h).trans (show u2yt0 C fl k (cp1 u2yt0s0 ((finalK a_slices_Sorted.results) .ret)) p0 h = slices_Sorted C fl k p0 h by kernel_rfl)))
def d_slices_Sorted (C : Callee) (fl k : Nat) (args : List Value) (h : AH) : Option (Value × AH) := match args with
  | [n0] => slices_Sorted C fl k n0 h
  | _ => none
theorem d_slices_Sorted_run {C : Callee} {fl k : Nat} {args : List Value} {h : AH} {r : Value × AH} (e : d_slices_Sorted C fl k args h = some r) : runF C fl k a_slices_Sorted args h = some r := by
  unfold d_slices_Sorted at e
  split at e
  · rename_i n0; exact (slices_Sorted_run C fl k n0 h).trans e
  · cases e
abbrev uessat0 (R : Type) := Value → AH → Option R
def uessas0 (t2 : Value) : List Value := un 2 (t2 :: un 1 [])
def cuessa : ACode := .seq (.region [oI 1 (.box (.t 0)), oI 2 (.mv (.c (.nilFunc)))] [0, 2]) (.seq (.region [oI 3 (.mkfn 187 [] [.t 1]), oI 2 (.mv (.t 3))] [1, 3]) (.ret))
abbrev uessat1 (R : Type) := Sl → AH → Option R
def uessas1 (t0 : Sl) : List Value := t0.v :: un 3 []
def a_slices_Values : AFunc := ⟨4, cuessa, [.tmp 2]⟩
theorem ok_slices_Values : okF Tryz.prog 178 a_slices_Values = true := by kernel_rfl
def uessa {R : Type} (C : Callee) (fl k : Nat) (kr : uessat0 R) : uessat1 R := fun t0 h => alc h [.slice t0.a t0.l t0.c] fun b1 h2 => kr (.func (.func fn.slices_Values_1) ⟨[]⟩ ⟨[.pointer (some ⟨b1, 0, none⟩)]⟩) h2
theorem uessa_e {R} (C fl k) (K : KF R) : (cp1 uessas1 (ce C fl k cuessa K)) = uessa C fl k (cp1 uessas0 (K .ret)) := by kernel_rfl
def slices_Values (C : Callee) (fl k : Nat) (p0 : Sl) (h : AH) : Option (Value × AH) := uessa C fl k (fun y2 q => some (y2, q)) p0 h
theorem slices_Values_run (C fl k) (p0 : Sl) (h) : runF C fl k a_slices_Values [.slice p0.a p0.l p0.c] h = slices_Values C fl k p0 h :=
  (runF_ce C fl k a_slices_Values [.slice p0.a p0.l p0.c] h cuessa (uessas1 p0) rfl (by kernel_rfl)).trans ((cp1_ap uessas1 (ce C fl k cuessa (finalK a_slices_Values.results)) p0 h).symm.trans ((congrFun (congrFun (uessa_e C fl k (finalK a_slices_Values.results)) p0) h).trans (show uessa C fl k (cp1 uessas0 ((finalK a_slices_Values.results) .ret)) p0 h = slices_Values C fl k p0 h by kernel_rfl)))
def d_slices_Values (C : Callee) (fl k : Nat) (args : List Value) (h : AH) : Option (Value × AH) := match args with
  | [.slice n0a n0l n0c] => slices_Values C fl k ⟨n0a, n0l, n0c⟩ h
  | _ => none
theorem d_slices_Values_run {C : Callee} {fl k : Nat} {args : List Value} {h : AH} {r : Value × AH} (e : d_slices_Values C fl k args h = some r) : runF C fl k a_slices_Values args h = some r := by
  unfold d_slices_Values at e
  split at e
  · rename_i n0a n0l n0c; exact (slices_Values_run C fl k ⟨n0a, n0l, n0c⟩ h).trans e
  · cases e
end Go.Abs.P
