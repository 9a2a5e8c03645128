/- Functions of the program as plain Lean functions over the abstract heap, each with its proof. Printed by gen2.py. -/
import Derived.Test.YtgplcfblbkmcmaaGreatProg
import Derived.Test.YtgplcfblbkmcmaaGreatN
import Derived.KernelRfl
set_option maxRecDepth 100000
set_option linter.unusedVariables false
namespace Go.Abs.P
open Go.Abs Go.Proofs
abbrev un33ft0 (R : Type) := Addr → Int → AH → Option R
def un33fs0 (t4 : Addr) (t5 : Int) : List Value := un 4 (vp t4 :: vi t5 :: un 60 [])
def cun33f_1_2 : ACode := .seq (.region [oI 65 (.load (.agg [.int .i64, .slice]) (.t 8)), pI (.store 2 (.t 4) (.t 65)), oI 5 (.mv (ci 0))] [8, 65]) (.ret)
abbrev un33ft1 (R : Type) := Addr → Addr → AH → Option R
def un33fs1 (t4 t8 : Addr) : List Value := un 4 (vp t4 :: un 3 (vp t8 :: un 57 []))
abbrev un33ft2 (R : Type) := Addr → Addr → Addr → Int → Int → AH → Option R
def un33fs2 (t3 t4 t8 : Addr) (t32 t33 : Int) : List Value := un 3 (vp t3 :: vp t4 :: un 3 (vp t8 :: un 23 (vi t32 :: vi t33 :: un 32 [])))
def cun33f_1_b_3_4 : ACode := .region [oI 64 (.bin .add .i64 (.t 33) (ci 1)), oI 33 (.mv (.t 64))] [64]
abbrev un33ft3 (R : Type) := Addr → Addr → Addr → Int → Int → Int → Sl → Int → Int → AH → Option R
def un33fs3 (t3 t4 t8 : Addr) (t9 t32 t33 : Int) (t45 : Sl) (t46 t47 : Int) : List Value := un 3 (vp t3 :: vp t4 :: un 3 (vp t8 :: vi t9 :: un 22 (vi t32 :: vi t33 :: un 11 (t45.v :: vi t46 :: vi t47 :: un 18 []))))
def cun33f_1_b_3_u_5_b : ACode := .seq (.region [oI 48 (.cmp .lss .i64 (.t 47) (.t 46))] []) (.seq (.cond (.t 48) (.region [] [48]) (.seq (.region [] [9, 45, 46, 47, 48]) (.exit 2))) (.seq (.block 3 (.seq (.region [oI 49 (.mv (.t 47)), oI 50 (.iaddr 1 (.t 45) (.t 47)), oI 51 (.load (.one .slice) (.t 50)), oI 10 (.mv (.t 49)), oI 11 (.mv (.t 51))] [49, 50, 51]) (.region [oI 52 (.faddr 1 (.t 8)), oJ 53 (.load (.one .slice) (.t 52)), oI 54 (.mv (.t 9)), oI 55 (.iaddr 1 (.t 53) (.t 54)), oJ 56 (.load (.one .slice) (.t 55)), oI 57 (.mv (.t 10)), oI 58 (.mv (.t 11)), oI 59 (.mv (.t 9)), oI 60 (.iaddr 1 (.t 58) (.t 59)), oJ 61 (.load (.one (.int .i64)) (.t 60)), oI 62 (.iaddr 1 (.t 56) (.t 57)), pI (.store 1 (.t 62) (.t 61))] [10, 11, 52, 53, 54, 55, 56, 57, 58, 59, 60, 61, 62]))) (.region [oI 63 (.bin .add .i64 (.t 47) (ci 1)), oI 47 (.mv (.t 63))] [63])))
def cun33f_1_b_3_u_5 : ACode := .block 2 (.loop cun33f_1_b_3_u_5_b)
def gcun33f_1_b_3_u (cn : ACode) : ACode := .seq (.seq (.region [oI 35 (.mv (.t 33)), oI 9 (.mv (.t 35))] [35]) (.seq (.region [oI 36 (.faddr 1 (.t 8)), oJ 37 (.load (.one .slice) (.t 36)), oI 38 (.mv (.t 9)), oI 39 (.faddr 1 (.t 3)), oJ 40 (.load (.one .slice) (.t 39)), oI 41 (.len (.t 40)), oJ 42 (.mkslice 8 [.int .i64 0] (.t 41) (.t 41)), oI 43 (.iaddr 1 (.t 37) (.t 38)), pI (.store 1 (.t 43) (.t 42))] [36, 37, 38, 39, 40, 41, 42, 43]) (.region [oI 44 (.faddr 1 (.t 3)), oI 45 (.load (.one .slice) (.t 44)), oI 46 (.len (.t 45)), oI 47 (.mv (ci 0))] [44]))) cn
def cun33f_1_b_3_u : ACode := gcun33f_1_b_3_u cun33f_1_b_3_u_5
def gcun33f_1_b_3 (cn cu0 : ACode) : ACode := .seq (.block 1 cu0) cn
def cun33f_1_b_3 : ACode := gcun33f_1_b_3 cun33f_1_b_3_4 cun33f_1_b_3_u
def gcun33f_1_b (cn : ACode) : ACode := .seq (.seq (.region [oI 34 (.cmp .lss .i64 (.t 33) (.t 32))] []) (.cond (.t 34) (.region [] [34]) (.seq (.region [] [3, 32, 33, 34]) (.exit 0)))) cn
def cun33f_1_b : ACode := gcun33f_1_b cun33f_1_b_3
def cun33f_1 : ACode := .seq (.block 0 (.loop cun33f_1_b)) cun33f_1_2
def gcun33f (cn : ACode) : ACode := .seq (.seq (.region [oI 2 (.box (.t 0)), oI 3 (.box (.t 1)), oI 4 (.alloc [.int .i64 0, .slice none 0 0]), oI 5 (.mv (ci 0))] [0, 1, 5]) (.seq (.region [oI 13 (.load (.agg [.int .i64, .int .i64, .slice]) (.t 2)), oI 14 (.load (.agg [.int .i64, .slice]) (.t 3)), oI 15 (.bslice 1 [.int .i64 0, .slice none 0 0] [(0, 2, .t 14)]), oI 16 (.call (.f 102) [.t 13, .t 15] (.tup [.one .nptr, .one (.int .i64)])), oI 12 (.mv (.t 16)), oI 17 (.extr (.t 12) 0), oI 18 (.extr (.t 12) 1), oI 6 (.mv (.t 17)), oI 7 (.mv (.t 18))] [2, 6, 12, 13, 14, 15, 16, 17, 18]) (.seq (.region [oI 19 (.mv (.t 7)), oI 20 (.cmp .neq .i64 (.t 19) (ci 0))] [19]) (.seq (.cond (.t 20) (.seq (.region [oI 21 (.build [.int .i64 0, .slice none 0 0] []), oI 22 (.mv (.t 7)), pI (.store 2 (.t 4) (.t 21)), oI 5 (.mv (.t 22))] [3, 7, 20, 21, 22]) (.ret)) (.region [] [7, 20])) (.seq (.region [oI 23 (.faddr 1 (.t 3)), oJ 24 (.load (.one .slice) (.t 23)), oI 25 (.len (.t 24)), oI 26 (.faddr 0 (.t 3)), oJ 27 (.load (.one (.int .i64)) (.t 26)), oJ 28 (.mkslice 24 [.slice none 0 0] (.t 27) (.t 27)), oI 29 (.build [.int .i64 0, .slice none 0 0] [(0, 1, .t 25), (1, 1, .t 28)]), oJ 8 (.alloc [.int .i64 0, .slice none 0 0]), pI (.store 2 (.t 8) (.t 29))] [23, 24, 25, 26, 27, 28, 29]) (.region [oI 30 (.faddr 1 (.t 8)), oI 31 (.load (.one .slice) (.t 30)), oI 32 (.len (.t 31)), oI 33 (.mv (ci 0))] [30, 31])))))) cn
def cun33f : ACode := gcun33f cun33f_1
abbrev un33ft4 (R : Type) := Int → Int → Sl → Int → Sl → AH → Option R
def un33fs4 (t0_0 t0_1 : Int) (t0_2 : Sl) (t1_0 : Int) (t1_1 : Sl) : List Value := .agg ⟨[.int .i64 t0_0, .int .i64 t0_1, .slice t0_2.a t0_2.l t0_2.c]⟩ :: .agg ⟨[.int .i64 t1_0, .slice t1_1.a t1_1.l t1_1.c]⟩ :: un 64 []
def a_matrix_Transpose : AFunc := ⟨66, cun33f, [.cell 4 (.agg [.int .i64, .slice]), .tmp 5]⟩
theorem ok_matrix_Transpose : okF Tryz.prog 84 a_matrix_Transpose = true := by kernel_rfl
def un33f_1_2 {R : Type} (C : Callee) (fl k : Nat) (kr : un33ft0 R) : un33ft1 R := fun t4 t8 h => ldI .i64 h t8.block t8.off fun n1 => ldS h t8.block (t8.off + 1) fun s2 => st fl h t4 [.int .i64 n1, .slice s2.a s2.l s2.c] fun h3 => kr t4 0 h3
theorem un33f_1_2_e {R} (C fl k) (K : KF R) : (cp2 un33fs1 (ce C fl k cun33f_1_2 K)) = un33f_1_2 C fl k (cp2 un33fs0 (K .ret)) := by kernel_rfl
def un33f_1_b_3_4 {R : Type} (C : Callee) (fl k : Nat) (kn : un33ft2 R) (e0 : un33ft1 R) : un33ft2 R := fun t3 t4 t8 t32 t33 h => kn t3 t4 t8 t32 (w64 (t33 + 1)) h
theorem un33f_1_b_3_4_e {R} (C fl k) (K : KF R) : (cp5 un33fs2 (ce C fl k cun33f_1_b_3_4 K)) = un33f_1_b_3_4 C fl k (cp5 un33fs2 (K .normal)) (cp2 un33fs1 (K (.exit 0))) := by kernel_rfl
def un33f_1_b_3_u_5_b {R : Type} (C : Callee) (fl k : Nat) (kn : un33ft3 R) (e2 : un33ft2 R) : un33ft3 R := fun t3 t4 t8 t9 t32 t33 t45 t46 t47 h => if decide (t47 < t46) = true then idx 1 t45 t47 fun p4 => ldS h p4.block p4.off fun s5 => ldS h t8.block (t8.off + 1) fun s6 => idx 1 s6 t9 fun p7 => ldS h p7.block p7.off fun s8 => idx 1 s5 t9 fun p9 => ldI .i64 h p9.block p9.off fun n10 => idx 1 s8 t47 fun p11 => st fl h p11 [.int .i64 n10] fun h12 => kn t3 t4 t8 t9 t32 t33 t45 t46 (w64 (t47 + 1)) h12 else e2 t3 t4 t8 t32 t33 h
theorem un33f_1_b_3_u_5_b_e {R} (C fl k) (K : KF R) : (cp9 un33fs3 (ce C fl k cun33f_1_b_3_u_5_b K)) = un33f_1_b_3_u_5_b C fl k (cp9 un33fs3 (K .normal)) (cp5 un33fs2 (K (.exit 2))) := by kernel_rfl
def un33f_1_b_3_u_5_l {R : Type} (C : Callee) (fl k : Nat) (kn : un33ft2 R) : Nat → un33ft3 R
  | 0 => fun _ _ _ _ _ _ _ _ _ _ => none
  | m + 1 => un33f_1_b_3_u_5_b C fl k (un33f_1_b_3_u_5_l C fl k kn m) kn
theorem un33f_1_b_3_u_5_l_p {R} (C fl k) (K : KF R) : ∀ m, (cp9 un33fs3 (loopK m (kstep C fl k cun33f_1_b_3_u_5_b 2 K))) = un33f_1_b_3_u_5_l C fl k (cp5 un33fs2 (K .normal)) m
  | 0 => by kernel_rfl
  | m + 1 => (congr1 (fun g => (cp9 un33fs3 (g))) (loop_ce C fl k cun33f_1_b_3_u_5_b 2 K m)).trans ((un33f_1_b_3_u_5_b_e C fl k _).trans (congr1 (fun L => un33f_1_b_3_u_5_b C fl k L (cp5 un33fs2 (K .normal))) (un33f_1_b_3_u_5_l_p C fl k K m)))
theorem un33f_1_b_3_u_5_l_e {R} (C fl k) (K : KF R) : (cp9 un33fs3 (ce C fl k (.block 2 (.loop cun33f_1_b_3_u_5_b)) K)) = un33f_1_b_3_u_5_l C fl k (cp5 un33fs2 (K .normal)) k := (congr1 (fun g => (cp9 un33fs3 (g))) (ce_loop C fl k cun33f_1_b_3_u_5_b 2 K)).trans (un33f_1_b_3_u_5_l_p C fl k K k)
def un33f_1_b_3_u_5 {R : Type} (C : Callee) (fl k : Nat) (kn : un33ft2 R) : un33ft3 R := un33f_1_b_3_u_5_l C fl k kn k
theorem un33f_1_b_3_u_5_e {R} (C fl k) (K : KF R) : (cp9 un33fs3 (ce C fl k cun33f_1_b_3_u_5 K)) = un33f_1_b_3_u_5 C fl k (cp5 un33fs2 (K .normal)) := un33f_1_b_3_u_5_l_e C fl k K
def un33f_1_b_3_uF {R : Type} (C : Callee) (fl k : Nat) (kx : un33ft3 R)  (kn : un33ft2 R) : un33ft2 R := fun t3 t4 t8 t32 t33 h => ldS h t8.block (t8.off + 1) fun s13 => ldS h t3.block (t3.off + 1) fun s14 => mkSl 8 [.int .i64 0] ((s14.l : Nat) : Int) ((s14.l : Nat) : Int) h fun s15 h16 => idx 1 s13 t33 fun p17 => st fl h16 p17 [.slice s15.a s15.l s15.c] fun h18 => ldS h18 t3.block (t3.off + 1) fun s19 => kx t3 t4 t8 t33 t32 t33 s19 ((s19.l : Nat) : Int) 0 h18
def un33f_1_b_3_u {R : Type} (C : Callee) (fl k : Nat) (kn : un33ft2 R) : un33ft2 R := un33f_1_b_3_uF C fl k (un33f_1_b_3_u_5 C fl k kn)  kn
theorem un33f_1_b_3_u_g {R} (C fl k) (cn : ACode) (K : KF R) : (cp5 un33fs2 (ce C fl k (gcun33f_1_b_3_u cn) K)) = un33f_1_b_3_uF C fl k (cp9 un33fs3 (ce C fl k cn K)) (cp5 un33fs2 (K .normal)) := by kernel_rfl
theorem un33f_1_b_3_u_e {R} (C fl k) (K : KF R) : (cp5 un33fs2 (ce C fl k cun33f_1_b_3_u K)) = un33f_1_b_3_u C fl k (cp5 un33fs2 (K .normal)) := (un33f_1_b_3_u_g C fl k cun33f_1_b_3_u_5 K).trans (congr1 (fun L0 => un33f_1_b_3_uF C fl k L0 (cp5 un33fs2 (K .normal))) (un33f_1_b_3_u_5_e C fl k K))
def un33f_1_b_3F {R : Type} (C : Callee) (fl k : Nat) (kx : un33ft2 R) (u0 : un33ft2 R) (kn : un33ft2 R) (e0 : un33ft1 R) : un33ft2 R := fun t3 t4 t8 t32 t33 h => u0 t3 t4 t8 t32 t33 h
def un33f_1_b_3 {R : Type} (C : Callee) (fl k : Nat) (kn : un33ft2 R) (e0 : un33ft1 R) : un33ft2 R := un33f_1_b_3F C fl k (un33f_1_b_3_4 C fl k kn e0) (un33f_1_b_3_u C fl k (un33f_1_b_3_4 C fl k kn e0)) kn e0
theorem un33f_1_b_3_g {R} (C fl k) (cn cu0 : ACode) (K : KF R) : (cp5 un33fs2 (ce C fl k (gcun33f_1_b_3 cn cu0) K)) = un33f_1_b_3F C fl k (cp5 un33fs2 (ce C fl k cn K)) (cp5 un33fs2 (ce C fl k cu0 (kblk 1 (kseq C fl k cn K)))) (cp5 un33fs2 (K .normal)) (cp2 un33fs1 (K (.exit 0))) := by kernel_rfl
theorem un33f_1_b_3_e {R} (C fl k) (K : KF R) : (cp5 un33fs2 (ce C fl k cun33f_1_b_3 K)) = un33f_1_b_3 C fl k (cp5 un33fs2 (K .normal)) (cp2 un33fs1 (K (.exit 0))) := (un33f_1_b_3_g C fl k cun33f_1_b_3_4 cun33f_1_b_3_u K).trans (congr2 (fun L0 L1 => un33f_1_b_3F C fl k L0 L1 (cp5 un33fs2 (K .normal)) (cp2 un33fs1 (K (.exit 0)))) (un33f_1_b_3_4_e C fl k K) ((un33f_1_b_3_u_e C fl k (kblk 1 (kseq C fl k cun33f_1_b_3_4 K))).trans (congr1 (fun L0 => un33f_1_b_3_u C fl k L0) ((congr1 (fun g => (cp5 un33fs2 (g))) (blk_n C fl k cun33f_1_b_3_4 1 K)).trans (un33f_1_b_3_4_e C fl k K)))))
def un33f_1_bF {R : Type} (C : Callee) (fl k : Nat) (kx : un33ft2 R)  (kn : un33ft2 R) (e0 : un33ft1 R) : un33ft2 R := fun t3 t4 t8 t32 t33 h => if decide (t33 < t32) = true then kx t3 t4 t8 t32 t33 h else e0 t4 t8 h
def un33f_1_b {R : Type} (C : Callee) (fl k : Nat) (kn : un33ft2 R) (e0 : un33ft1 R) : un33ft2 R := un33f_1_bF C fl k (un33f_1_b_3 C fl k kn e0)  kn e0
theorem un33f_1_b_g {R} (C fl k) (cn : ACode) (K : KF R) : (cp5 un33fs2 (ce C fl k (gcun33f_1_b cn) K)) = un33f_1_bF C fl k (cp5 un33fs2 (ce C fl k cn K)) (cp5 un33fs2 (K .normal)) (cp2 un33fs1 (K (.exit 0))) := by kernel_rfl
theorem un33f_1_b_e {R} (C fl k) (K : KF R) : (cp5 un33fs2 (ce C fl k cun33f_1_b K)) = un33f_1_b C fl k (cp5 un33fs2 (K .normal)) (cp2 un33fs1 (K (.exit 0))) := (un33f_1_b_g C fl k cun33f_1_b_3 K).trans (congr1 (fun L0 => un33f_1_bF C fl k L0 (cp5 un33fs2 (K .normal)) (cp2 un33fs1 (K (.exit 0)))) (un33f_1_b_3_e C fl k K))
def un33f_1_l {R : Type} (C : Callee) (fl k : Nat) (kn : un33ft1 R) : Nat → un33ft2 R
  | 0 => fun _ _ _ _ _ _ => none
  | m + 1 => un33f_1_b C fl k (un33f_1_l C fl k kn m) kn
theorem un33f_1_l_p {R} (C fl k) (K : KF R) : ∀ m, (cp5 un33fs2 (loopK m (kstep C fl k cun33f_1_b 0 K))) = un33f_1_l C fl k (cp2 un33fs1 (K .normal)) m
  | 0 => by kernel_rfl
  | m + 1 => (congr1 (fun g => (cp5 un33fs2 (g))) (loop_ce C fl k cun33f_1_b 0 K m)).trans ((un33f_1_b_e C fl k _).trans (congr1 (fun L => un33f_1_b C fl k L (cp2 un33fs1 (K .normal))) (un33f_1_l_p C fl k K m)))
theorem un33f_1_l_e {R} (C fl k) (K : KF R) : (cp5 un33fs2 (ce C fl k (.block 0 (.loop cun33f_1_b)) K)) = un33f_1_l C fl k (cp2 un33fs1 (K .normal)) k := (congr1 (fun g => (cp5 un33fs2 (g))) (ce_loop C fl k cun33f_1_b 0 K)).trans (un33f_1_l_p C fl k K k)
def un33f_1 {R : Type} (C : Callee) (fl k : Nat) (kr : un33ft0 R) : un33ft2 R := un33f_1_l C fl k (un33f_1_2 C fl k kr) k
theorem un33f_1_e {R} (C fl k) (K : KF R) : (cp5 un33fs2 (ce C fl k cun33f_1 K)) = un33f_1 C fl k (cp2 un33fs0 (K .ret)) := ((congr1 (fun g => (cp5 un33fs2 (g))) (ce_seq C fl k _ _ K)).trans (un33f_1_l_e C fl k (kseq C fl k cun33f_1_2 K))).trans (congr1 (fun L => un33f_1_l C fl k L k) ((congr1 (fun g => (cp2 un33fs1 (g))) (seq_n C fl k cun33f_1_2 K)).trans (un33f_1_2_e C fl k K)))
def un33fF {R : Type} (C : Callee) (fl k : Nat) (kx : un33ft2 R)  (kr : un33ft0 R) : un33ft4 R := fun t0_0 t0_1 t0_2 t1_0 t1_1 h => alc h [.int .i64 t0_0, .int .i64 t0_1, .slice t0_2.a t0_2.l t0_2.c] fun b20 h21 => alc h21 [.int .i64 t1_0, .slice t1_1.a t1_1.l t1_1.c] fun b22 h23 => alc h23 [.int .i64 0, .slice none 0 0] fun b24 h25 => ldI .i64 h25 b20 0 fun n26 => ldI .i64 h25 b20 1 fun n27 => ldS h25 b20 2 fun s28 => ldI .i64 h25 b22 0 fun n29 => ldS h25 b22 1 fun s30 => alc h25 [.int .i64 n29, .slice s30.a s30.l s30.c] fun b31 h32 => callF C fl fn.matrix_open [.agg ⟨[.int .i64 n26, .int .i64 n27, .slice s28.a s28.l s28.c]⟩, .slice (some ⟨b31, 0, none⟩) 1 1] h32 fun v33 h34 => asTup v33 fun l35 => ucons l35 fun v36 l37 => asNptr v36 fun p38 => ucons l37 fun v39 l40 => asInt .i64 v39 fun n41 => unil l40 (if (n41 != 0) = true then st fl h34 ⟨b24, 0, none⟩ [.int .i64 0, .slice none 0 0] fun h42 => kr ⟨b24, 0, none⟩ n41 h42 else ldS h34 b22 1 fun s43 => ldI .i64 h34 b22 0 fun n44 => mkSl 24 [.slice none 0 0] n44 n44 h34 fun s45 h46 => alc h46 [.int .i64 0, .slice none 0 0] fun b47 h48 => st fl h48 ⟨b47, 0, none⟩ [.int .i64 ((s43.l : Nat) : Int), .slice s45.a s45.l s45.c] fun h49 => ldS h49 b47 1 fun s50 => kx ⟨b22, 0, none⟩ ⟨b24, 0, none⟩ ⟨b47, 0, none⟩ ((s50.l : Nat) : Int) 0 h49)
def un33f {R : Type} (C : Callee) (fl k : Nat) (kr : un33ft0 R) : un33ft4 R := un33fF C fl k (un33f_1 C fl k kr)  kr
theorem un33f_g {R} (C fl k) (cn : ACode) (K : KF R) : (cp5 un33fs4 (ce C fl k (gcun33f cn) K)) = un33fF C fl k (cp5 un33fs2 (ce C fl k cn K)) (cp2 un33fs0 (K .ret)) := by kernel_rfl
theorem un33f_e {R} (C fl k) (K : KF R) : (cp5 un33fs4 (ce C fl k cun33f K)) = un33f C fl k (cp2 un33fs0 (K .ret)) := (un33f_g C fl k cun33f_1 K).trans (congr1 (fun L0 => un33fF C fl k L0 (cp2 un33fs0 (K .ret))) (un33f_1_e C fl k K))
def matrix_Transpose (C : Callee) (fl k : Nat) (p0_0 p0_1 : Int) (p0_2 : Sl) (p1_0 : Int) (p1_1 : Sl) (h : AH) : Option (Value × AH) := un33f C fl k (fun y4 y5 q => ldI .i64 q y4.block y4.off fun n51 => ldS q y4.block (y4.off + 1) fun s52 => some (.tuple ⟨[.agg ⟨[.int .i64 n51, .slice s52.a s52.l s52.c]⟩, .int .i64 y5]⟩, q)) p0_0 p0_1 p0_2 p1_0 p1_1 h
theorem matrix_Transpose_run (C fl k) (p0_0 p0_1 : Int) (p0_2 : Sl) (p1_0 : Int) (p1_1 : Sl) (h) : runF C fl k a_matrix_Transpose [.agg ⟨[.int .i64 p0_0, .int .i64 p0_1, .slice p0_2.a p0_2.l p0_2.c]⟩, .agg ⟨[.int .i64 p1_0, .slice p1_1.a p1_1.l p1_1.c]⟩] h = matrix_Transpose C fl k p0_0 p0_1 p0_2 p1_0 p1_1 h :=
  (runF_ce C fl k a_matrix_Transpose [.agg ⟨[.int .i64 p0_0, .int .i64 p0_1, .slice p0_2.a p0_2.l p0_2.c]⟩, .agg ⟨[.int .i64 p1_0, .slice p1_1.a p1_1.l p1_1.c]⟩] h cun33f (un33fs4 p0_0 p0_1 p0_2 p1_0 p1_1) rfl (by kernel_rfl)).trans ((cp5_ap un33fs4 (ce C fl k cun33f (finalK a_matrix_Transpose.results)) p0_0 p0_1 p0_2 p1_0 p1_1 h).symm.trans ((congrFun (congrFun (congrFun (congrFun (congrFun (congrFun (un33f_e C fl k (finalK a_matrix_Transpose.results)) p0_0) p0_1) p0_2) p1_0) p1_1) h).trans (show un33f C fl k (cp2 un33fs0 ((finalK a_matrix_Transpose.results) .ret)) p0_0 p0_1 p0_2 p1_0 p1_1 h = matrix_Transpose C fl k p0_0 p0_1 p0_2 p1_0 p1_1 h by kernel_rfl)))
def d_matrix_Transpose (C : Callee) (fl k : Nat) (args : List Value) (h : AH) : Option (Value × AH) := match args with
  | [.agg ⟨[.int .i64 n1, .int .i64 n2, .slice n3a n3l n3c]⟩, .agg ⟨[.int .i64 n5, .slice n6a n6l n6c]⟩] => matrix_Transpose C fl k n1 n2 ⟨n3a, n3l, n3c⟩ n5 ⟨n6a, n6l, n6c⟩ h
  | _ => none
theorem d_matrix_Transpose_run {C : Callee} {fl k : Nat} {args : List Value} {h : AH} {r : Value × AH} (e : d_matrix_Transpose C fl k args h = some r) : runF C fl k a_matrix_Transpose args h = some r := by
  unfold d_matrix_Transpose at e
  split at e
  · rename_i n1 n2 n3a n3l n3c n5 n6a n6l n6c; exact (matrix_Transpose_run C fl k n1 n2 ⟨n3a, n3l, n3c⟩ n5 ⟨n6a, n6l, n6c⟩ h).trans e
  · cases e
abbrev uiio2t0 (R : Type) := Addr → Int → AH → Option R
def uiio2s0 (t6 : Addr) (t7 : Int) : List Value := un 6 (vp t6 :: vi t7 :: un 48 [])
def cuiio2_1_2 : ACode := .seq (.region [oI 55 (.load (.agg [.int .i64, .slice]) (.t 10)), pI (.store 2 (.t 6) (.t 55)), oI 7 (.mv (ci 0))] [10, 55]) (.ret)
abbrev uiio2t1 (R : Type) := Addr → Addr → AH → Option R
def uiio2s1 (t6 t10 : Addr) : List Value := un 6 (vp t6 :: un 3 (vp t10 :: un 45 []))
abbrev uiio2t2 (R : Type) := Addr → Addr → OA → Addr → Sl → Int → Int → AH → Option R
def uiio2s2 (t5 t6 : Addr) (t8 : OA) (t10 : Addr) (t36 : Sl) (t37 t38 : Int) : List Value := un 5 (vp t5 :: vp t6 :: un 1 (vn t8 :: un 1 (vp t10 :: un 25 (t36.v :: vi t37 :: vi t38 :: un 17 []))))
def cuiio2_1_b : ACode := .seq (.region [oI 39 (.cmp .lss .i64 (.t 38) (.t 37))] []) (.seq (.cond (.t 39) (.region [] [39]) (.seq (.region [] [5, 8, 36, 37, 38, 39]) (.exit 0))) (.seq (.block 1 (.seq (.region [oI 40 (.iaddr 1 (.t 36) (.t 38)), oI 41 (.load (.one .slice) (.t 40)), oI 12 (.mv (.t 41))] [40, 41]) (.region [oI 42 (.faddr 1 (.t 10)), oJ 43 (.load (.one .slice) (.t 42)), oI 44 (.mv (.t 8)), oI 45 (.mv (.t 12)), oI 46 (.faddr 1 (.t 5)), oJ 47 (.load (.one .slice) (.t 46)), oI 48 (.faddr 0 (.t 5)), oJ 49 (.load (.one (.int .i64)) (.t 48)), oJ 50 (.call (.f 111) [.t 44, .t 45, .t 47, .t 49] (.one (.one .slice))), oJ 51 (.bslice 1 [.slice none 0 0] [(0, 1, .t 50)]), oI 52 (.append 1 24 (.t 43) (.t 51)), oI 53 (.faddr 1 (.t 10)), pI (.store 1 (.t 53) (.t 52))] [12, 42, 43, 44, 45, 46, 47, 48, 49, 50, 51, 52, 53]))) (.region [oI 54 (.bin .add .i64 (.t 38) (ci 1)), oI 38 (.mv (.t 54))] [54])))
def cuiio2_1 : ACode := .seq (.block 0 (.loop cuiio2_1_b)) cuiio2_1_2
def gcuiio2 (cn : ACode) : ACode := .seq (.seq (.region [oI 3 (.box (.t 0)), oI 4 (.box (.t 1)), oI 5 (.box (.t 2)), oI 6 (.alloc [.int .i64 0, .slice none 0 0]), oI 7 (.mv (ci 0))] [0, 1, 2, 7]) (.seq (.region [oI 14 (.load (.agg [.int .i64, .int .i64, .slice]) (.t 3)), oI 15 (.load (.agg [.int .i64, .slice]) (.t 4)), oI 16 (.load (.agg [.int .i64, .slice]) (.t 5)), oI 17 (.bslice 2 [.int .i64 0, .slice none 0 0, .int .i64 0, .slice none 0 0] [(0, 2, .t 15), (2, 2, .t 16)]), oI 18 (.call (.f 102) [.t 14, .t 17] (.tup [.one .nptr, .one (.int .i64)])), oI 13 (.mv (.t 18)), oI 19 (.extr (.t 13) 0), oI 20 (.extr (.t 13) 1), oI 8 (.mv (.t 19)), oI 9 (.mv (.t 20))] [3, 13, 14, 15, 16, 17, 18, 19, 20]) (.seq (.region [oI 21 (.mv (.t 9)), oI 22 (.cmp .neq .i64 (.t 21) (ci 0))] [21]) (.seq (.cond (.t 22) (.seq (.region [oI 23 (.build [.int .i64 0, .slice none 0 0] []), oI 24 (.mv (.t 9)), pI (.store 2 (.t 6) (.t 23)), oI 7 (.mv (.t 24))] [4, 5, 8, 9, 22, 23, 24]) (.ret)) (.region [] [9, 22])) (.seq (.region [oI 25 (.faddr 0 (.t 4)), oI 26 (.load (.one (.int .i64)) (.t 25)), oI 27 (.faddr 1 (.t 5)), oI 28 (.load (.one .slice) (.t 27)), oI 29 (.len (.t 28)), oI 30 (.cmp .neq .i64 (.t 26) (.t 29))] [25, 26, 27, 28, 29]) (.seq (.cond (.t 30) (.seq (.region [oI 31 (.build [.int .i64 0, .slice none 0 0] []), pI (.store 2 (.t 6) (.t 31)), oI 7 (.mv (ci 10))] [4, 5, 8, 30, 31]) (.ret)) (.region [] [30])) (.seq (.region [oI 32 (.faddr 0 (.t 5)), oI 33 (.load (.one (.int .i64)) (.t 32)), oI 34 (.build [.int .i64 0, .slice none 0 0] [(0, 1, .t 33)]), oI 10 (.alloc [.int .i64 0, .slice none 0 0]), pI (.store 2 (.t 10) (.t 34))] [32, 33, 34]) (.region [oI 35 (.faddr 1 (.t 4)), oI 36 (.load (.one .slice) (.t 35)), oI 37 (.len (.t 36)), oI 38 (.mv (ci 0))] [4, 35])))))))) cn
def cuiio2 : ACode := gcuiio2 cuiio2_1
abbrev uiio2t3 (R : Type) := Int → Int → Sl → Int → Sl → Int → Sl → AH → Option R
def uiio2s3 (t0_0 t0_1 : Int) (t0_2 : Sl) (t1_0 : Int) (t1_1 : Sl) (t2_0 : Int) (t2_1 : Sl) : List Value := .agg ⟨[.int .i64 t0_0, .int .i64 t0_1, .slice t0_2.a t0_2.l t0_2.c]⟩ :: .agg ⟨[.int .i64 t1_0, .slice t1_1.a t1_1.l t1_1.c]⟩ :: .agg ⟨[.int .i64 t2_0, .slice t2_1.a t2_1.l t2_1.c]⟩ :: un 53 []
def a_matrix_Mul : AFunc := ⟨56, cuiio2, [.cell 6 (.agg [.int .i64, .slice]), .tmp 7]⟩
theorem ok_matrix_Mul : okF Tryz.prog 85 a_matrix_Mul = true := by kernel_rfl
def uiio2_1_2 {R : Type} (C : Callee) (fl k : Nat) (kr : uiio2t0 R) : uiio2t1 R := fun t6 t10 h => ldI .i64 h t10.block t10.off fun n1 => ldS h t10.block (t10.off + 1) fun s2 => st fl h t6 [.int .i64 n1, .slice s2.a s2.l s2.c] fun h3 => kr t6 0 h3
theorem uiio2_1_2_e {R} (C fl k) (K : KF R) : (cp2 uiio2s1 (ce C fl k cuiio2_1_2 K)) = uiio2_1_2 C fl k (cp2 uiio2s0 (K .ret)) := by kernel_rfl
def uiio2_1_b {R : Type} (C : Callee) (fl k : Nat) (kn : uiio2t2 R) (e0 : uiio2t1 R) : uiio2t2 R := fun t5 t6 t8 t10 t36 t37 t38 h => if decide (t38 < t37) = true then idx 1 t36 t38 fun p4 => ldS h p4.block p4.off fun s5 => ldS h t10.block (t10.off + 1) fun s6 => ldS h t5.block (t5.off + 1) fun s7 => ldI .i64 h t5.block t5.off fun n8 => callF C h.next fn.matrix_vec [.pointer t8, .slice s5.a s5.l s5.c, .slice s7.a s7.l s7.c, .int .i64 n8] h fun v9 h10 => asSl v9 fun s11 => alc h10 [.slice s11.a s11.l s11.c] fun b12 h13 => apnd fl 1 24 s6 ⟨(some ⟨b12, 0, none⟩), 1, 1⟩ h13 fun s14 h15 => st fl h15 ⟨t10.block, t10.off + 1, none⟩ [.slice s14.a s14.l s14.c] fun h16 => kn t5 t6 t8 t10 t36 t37 (w64 (t38 + 1)) h16 else e0 t6 t10 h
theorem uiio2_1_b_e {R} (C fl k) (K : KF R) : (cp7 uiio2s2 (ce C fl k cuiio2_1_b K)) = uiio2_1_b C fl k (cp7 uiio2s2 (K .normal)) (cp2 uiio2s1 (K (.exit 0))) := by kernel_rfl
def uiio2_1_l {R : Type} (C : Callee) (fl k : Nat) (kn : uiio2t1 R) : Nat → uiio2t2 R
  | 0 => fun _ _ _ _ _ _ _ _ => none
  | m + 1 => uiio2_1_b C fl k (uiio2_1_l C fl k kn m) kn
theorem uiio2_1_l_p {R} (C fl k) (K : KF R) : ∀ m, (cp7 uiio2s2 (loopK m (kstep C fl k cuiio2_1_b 0 K))) = uiio2_1_l C fl k (cp2 uiio2s1 (K .normal)) m
  | 0 => by kernel_rfl
  | m + 1 => (congr1 (fun g => (cp7 uiio2s2 (g))) (loop_ce C fl k cuiio2_1_b 0 K m)).trans ((uiio2_1_b_e C fl k _).trans (congr1 (fun L => uiio2_1_b C fl k L (cp2 uiio2s1 (K .normal))) (uiio2_1_l_p C fl k K m)))
theorem uiio2_1_l_e {R} (C fl k) (K : KF R) : (cp7 uiio2s2 (ce C fl k (.block 0 (.loop cuiio2_1_b)) K)) = uiio2_1_l C fl k (cp2 uiio2s1 (K .normal)) k := (congr1 (fun g => (cp7 uiio2s2 (g))) (ce_loop C fl k cuiio2_1_b 0 K)).trans (uiio2_1_l_p C fl k K k)
def uiio2_1 {R : Type} (C : Callee) (fl k : Nat) (kr : uiio2t0 R) : uiio2t2 R := uiio2_1_l C fl k (uiio2_1_2 C fl k kr) k
theorem uiio2_1_e {R} (C fl k) (K : KF R) : (cp7 uiio2s2 (ce C fl k cuiio2_1 K)) = uiio2_1 C fl k (cp2 uiio2s0 (K .ret)) := ((congr1 (fun g => (cp7 uiio2s2 (g))) (ce_seq C fl k _ _ K)).trans (uiio2_1_l_e C fl k (kseq C fl k cuiio2_1_2 K))).trans (congr1 (fun L => uiio2_1_l C fl k L k) ((congr1 (fun g => (cp2 uiio2s1 (g))) (seq_n C fl k cuiio2_1_2 K)).trans (uiio2_1_2_e C fl k K)))
def uiio2F {R : Type} (C : Callee) (fl k : Nat) (kx : uiio2t2 R)  (kr : uiio2t0 R) : uiio2t3 R := fun t0_0 t0_1 t0_2 t1_0 t1_1 t2_0 t2_1 h => alc h [.int .i64 t0_0, .int .i64 t0_1, .slice t0_2.a t0_2.l t0_2.c] fun b17 h18 => alc h18 [.int .i64 t1_0, .slice t1_1.a t1_1.l t1_1.c] fun b19 h20 => alc h20 [.int .i64 t2_0, .slice t2_1.a t2_1.l t2_1.c] fun b21 h22 => alc h22 [.int .i64 0, .slice none 0 0] fun b23 h24 => ldI .i64 h24 b17 0 fun n25 => ldI .i64 h24 b17 1 fun n26 => ldS h24 b17 2 fun s27 => ldI .i64 h24 b19 0 fun n28 => ldS h24 b19 1 fun s29 => ldI .i64 h24 b21 0 fun n30 => ldS h24 b21 1 fun s31 => alc h24 [.int .i64 n28, .slice s29.a s29.l s29.c, .int .i64 n30, .slice s31.a s31.l s31.c] fun b32 h33 => callF C fl fn.matrix_open [.agg ⟨[.int .i64 n25, .int .i64 n26, .slice s27.a s27.l s27.c]⟩, .slice (some ⟨b32, 0, none⟩) 2 2] h33 fun v34 h35 => asTup v34 fun l36 => ucons l36 fun v37 l38 => asNptr v37 fun p39 => ucons l38 fun v40 l41 => asInt .i64 v40 fun n42 => unil l41 (if (n42 != 0) = true then st fl h35 ⟨b23, 0, none⟩ [.int .i64 0, .slice none 0 0] fun h43 => kr ⟨b23, 0, none⟩ n42 h43 else ldI .i64 h35 b19 0 fun n44 => ldS h35 b21 1 fun s45 => if (n44 != ((s45.l : Nat) : Int)) = true then st fl h35 ⟨b23, 0, none⟩ [.int .i64 0, .slice none 0 0] fun h46 => kr ⟨b23, 0, none⟩ 10 h46 else ldI .i64 h35 b21 0 fun n47 => alc h35 [.int .i64 0, .slice none 0 0] fun b48 h49 => st fl h49 ⟨b48, 0, none⟩ [.int .i64 n47, .slice none 0 0] fun h50 => ldS h50 b19 1 fun s51 => kx ⟨b21, 0, none⟩ ⟨b23, 0, none⟩ p39 ⟨b48, 0, none⟩ s51 ((s51.l : Nat) : Int) 0 h50)
def uiio2 {R : Type} (C : Callee) (fl k : Nat) (kr : uiio2t0 R) : uiio2t3 R := uiio2F C fl k (uiio2_1 C fl k kr)  kr
theorem uiio2_g {R} (C fl k) (cn : ACode) (K : KF R) : (cp7 uiio2s3 (ce C fl k (gcuiio2 cn) K)) = uiio2F C fl k (cp7 uiio2s2 (ce C fl k cn K)) (cp2 uiio2s0 (K .ret)) := by kernel_rfl
theorem uiio2_e {R} (C fl k) (K : KF R) : (cp7 uiio2s3 (ce C fl k cuiio2 K)) = uiio2 C fl k (cp2 uiio2s0 (K .ret)) := (uiio2_g C fl k cuiio2_1 K).trans (congr1 (fun L0 => uiio2F C fl k L0 (cp2 uiio2s0 (K .ret))) (uiio2_1_e C fl k K))
def matrix_Mul (C : Callee) (fl k : Nat) (p0_0 p0_1 : Int) (p0_2 : Sl) (p1_0 : Int) (p1_1 : Sl) (p2_0 : Int) (p2_1 : Sl) (h : AH) : Option (Value × AH) := uiio2 C fl k (fun y6 y7 q => ldI .i64 q y6.block y6.off fun n52 => ldS q y6.block (y6.off + 1) fun s53 => some (.tuple ⟨[.agg ⟨[.int .i64 n52, .slice s53.a s53.l s53.c]⟩, .int .i64 y7]⟩, q)) p0_0 p0_1 p0_2 p1_0 p1_1 p2_0 p2_1 h
theorem matrix_Mul_run (C fl k) (p0_0 p0_1 : Int) (p0_2 : Sl) (p1_0 : Int) (p1_1 : Sl) (p2_0 : Int) (p2_1 : Sl) (h) : runF C fl k a_matrix_Mul [.agg ⟨[.int .i64 p0_0, .int .i64 p0_1, .slice p0_2.a p0_2.l p0_2.c]⟩, .agg ⟨[.int .i64 p1_0, .slice p1_1.a p1_1.l p1_1.c]⟩, .agg ⟨[.int .i64 p2_0, .slice p2_1.a p2_1.l p2_1.c]⟩] h = matrix_Mul C fl k p0_0 p0_1 p0_2 p1_0 p1_1 p2_0 p2_1 h :=
  (runF_ce C fl k a_matrix_Mul [.agg ⟨[.int .i64 p0_0, .int .i64 p0_1, .slice p0_2.a p0_2.l p0_2.c]⟩, .agg ⟨[.int .i64 p1_0, .slice p1_1.a p1_1.l p1_1.c]⟩, .agg ⟨[.int .i64 p2_0, .slice p2_1.a p2_1.l p2_1.c]⟩] h cuiio2 (uiio2s3 p0_0 p0_1 p0_2 p1_0 p1_1 p2_0 p2_1) rfl (by kernel_rfl)).trans ((cp7_ap uiio2s3 (ce C fl k cuiio2 (finalK a_matrix_Mul.results)) p0_0 p0_1 p0_2 p1_0 p1_1 p2_0 p2_1 h).symm.trans ((congrFun (congrFun (congrFun (congrFun (congrFun (congrFun (congrFun (congrFun (uiio2_e C fl k (finalK a_matrix_Mul.results)) p0_0) p0_1) p0_2) p1_0) p1_1) p2_0) p2_1) h).trans (show uiio2 C fl k (cp2 uiio2s0 ((finalK a_matrix_Mul.results) .ret)) p0_0 p0_1 p0_2 p1_0 p1_1 p2_0 p2_1 h = matrix_Mul C fl k p0_0 p0_1 p0_2 p1_0 p1_1 p2_0 p2_1 h by kernel_rfl)))
def d_matrix_Mul (C : Callee) (fl k : Nat) (args : List Value) (h : AH) : Option (Value × AH) := match args with
  | [.agg ⟨[.int .i64 n1, .int .i64 n2, .slice n3a n3l n3c]⟩, .agg ⟨[.int .i64 n5, .slice n6a n6l n6c]⟩, .agg ⟨[.int .i64 n8, .slice n9a n9l n9c]⟩] => matrix_Mul C fl k n1 n2 ⟨n3a, n3l, n3c⟩ n5 ⟨n6a, n6l, n6c⟩ n8 ⟨n9a, n9l, n9c⟩ h
  | _ => none
theorem d_matrix_Mul_run {C : Callee} {fl k : Nat} {args : List Value} {h : AH} {r : Value × AH} (e : d_matrix_Mul C fl k args h = some r) : runF C fl k a_matrix_Mul args h = some r := by
  unfold d_matrix_Mul at e
  split at e
  · rename_i n1 n2 n3a n3l n3c n5 n6a n6l n6c n8 n9a n9l n9c; exact (matrix_Mul_run C fl k n1 n2 ⟨n3a, n3l, n3c⟩ n5 ⟨n6a, n6l, n6c⟩ n8 ⟨n9a, n9l, n9c⟩ h).trans e
  · cases e
abbrev ukzdot0 (R : Type) := Int → AH → Option R
def ukzdos0 (t4 : Int) : List Value := un 4 (vi t4 :: un 14 [])
def cukzdo_1_2 : ACode := .seq (.region [oI 4 (.mv (ci (-1)))] []) (.ret)
abbrev ukzdot1 (R : Type) := AH → Option R
def ukzdos1 : List Value := un 19 []
abbrev ukzdot2 (R : Type) := Sl → Int → Int → Int → AH → Option R
def ukzdos2 (t0 : Sl) (t1 t7 t8 : Int) : List Value := t0.v :: vi t1 :: un 5 (vi t7 :: vi t8 :: un 10 [])
def cukzdo_1_b : ACode := .seq (.region [oI 9 (.cmp .lss .i64 (.t 8) (.t 7))] []) (.seq (.cond (.t 9) (.region [] [9]) (.seq (.region [] [0, 1, 7, 8, 9]) (.exit 0))) (.seq (.block 1 (.seq (.region [oI 10 (.mv (.t 8)), oI 5 (.mv (.t 10))] [10]) (.seq (.region [oI 11 (.mv (.t 1)), oI 12 (.mv (.t 0)), oI 13 (.mv (.t 5)), oI 14 (.iaddr 1 (.t 12) (.t 13)), oI 15 (.load (.one (.int .i64)) (.t 14)), oI 16 (.cmp .eql .i64 (.t 11) (.t 15))] [11, 12, 13, 14, 15]) (.cond (.t 16) (.seq (.region [oI 17 (.mv (.t 5)), oI 4 (.mv (.t 17))] [0, 1, 5, 7, 8, 16, 17]) (.ret)) (.region [] [5, 16]))))) (.region [oI 18 (.bin .add .i64 (.t 8) (ci 1)), oI 8 (.mv (.t 18))] [18])))
def cukzdo_1 : ACode := .seq (.block 0 (.loop cukzdo_1_b)) cukzdo_1_2
def gcukzdo (cn : ACode) : ACode := .seq (.seq (.region [oI 4 (.mv (ci 0))] [4]) (.region [oI 6 (.mv (.t 0)), oI 7 (.len (.t 6)), oI 8 (.mv (ci 0))] [6])) cn
def cukzdo : ACode := gcukzdo cukzdo_1
abbrev ukzdot3 (R : Type) := Sl → Int → AH → Option R
def ukzdos3 (t0 : Sl) (t1 : Int) : List Value := t0.v :: vi t1 :: un 17 []
def a_slices_Index : AFunc := ⟨19, cukzdo, [.tmp 4]⟩
theorem ok_slices_Index : okF Tryz.prog 89 a_slices_Index = true := by kernel_rfl
def ukzdo_1_2 {R : Type} (C : Callee) (fl k : Nat) (kr : ukzdot0 R) : ukzdot1 R := fun h => kr (-1) h
theorem ukzdo_1_2_e {R} (C fl k) (K : KF R) : (cp0 ukzdos1 (ce C fl k cukzdo_1_2 K)) = ukzdo_1_2 C fl k (cp1 ukzdos0 (K .ret)) := by kernel_rfl
def ukzdo_1_b {R : Type} (C : Callee) (fl k : Nat) (kn : ukzdot2 R) (e0 : ukzdot1 R) (kr : ukzdot0 R) : ukzdot2 R := fun t0 t1 t7 t8 h => if decide (t8 < t7) = true then idx 1 t0 t8 fun p1 => ldI .i64 h p1.block p1.off fun n2 => if (t1 == n2) = true then kr t8 h else kn t0 t1 t7 (w64 (t8 + 1)) h else e0 h
theorem ukzdo_1_b_e {R} (C fl k) (K : KF R) : (cp4 ukzdos2 (ce C fl k cukzdo_1_b K)) = ukzdo_1_b C fl k (cp4 ukzdos2 (K .normal)) (cp0 ukzdos1 (K (.exit 0))) (cp1 ukzdos0 (K .ret)) := by kernel_rfl
def ukzdo_1_l {R : Type} (C : Callee) (fl k : Nat) (kn : ukzdot1 R) (kr : ukzdot0 R) : Nat → ukzdot2 R
  | 0 => fun _ _ _ _ _ => none
  | m + 1 => ukzdo_1_b C fl k (ukzdo_1_l C fl k kn kr m) kn kr
theorem ukzdo_1_l_p {R} (C fl k) (K : KF R) : ∀ m, (cp4 ukzdos2 (loopK m (kstep C fl k cukzdo_1_b 0 K))) = ukzdo_1_l C fl k (cp0 ukzdos1 (K .normal)) (cp1 ukzdos0 (K .ret)) m
  | 0 => by kernel_rfl
  | m + 1 => (congr1 (fun g => (cp4 ukzdos2 (g))) (loop_ce C fl k cukzdo_1_b 0 K m)).trans ((ukzdo_1_b_e C fl k _).trans (congr1 (fun L => ukzdo_1_b C fl k L (cp0 ukzdos1 (K .normal)) (cp1 ukzdos0 (K .ret))) (ukzdo_1_l_p C fl k K m)))
theorem ukzdo_1_l_e {R} (C fl k) (K : KF R) : (cp4 ukzdos2 (ce C fl k (.block 0 (.loop cukzdo_1_b)) K)) = ukzdo_1_l C fl k (cp0 ukzdos1 (K .normal)) (cp1 ukzdos0 (K .ret)) k := (congr1 (fun g => (cp4 ukzdos2 (g))) (ce_loop C fl k cukzdo_1_b 0 K)).trans (ukzdo_1_l_p C fl k K k)
def ukzdo_1 {R : Type} (C : Callee) (fl k : Nat) (kr : ukzdot0 R) : ukzdot2 R := ukzdo_1_l C fl k (ukzdo_1_2 C fl k kr) kr k
theorem ukzdo_1_e {R} (C fl k) (K : KF R) : (cp4 ukzdos2 (ce C fl k cukzdo_1 K)) = ukzdo_1 C fl k (cp1 ukzdos0 (K .ret)) := ((congr1 (fun g => (cp4 ukzdos2 (g))) (ce_seq C fl k _ _ K)).trans (ukzdo_1_l_e C fl k (kseq C fl k cukzdo_1_2 K))).trans (congr1 (fun L => ukzdo_1_l C fl k L (cp1 ukzdos0 (K .ret)) k) ((congr1 (fun g => (cp0 ukzdos1 (g))) (seq_n C fl k cukzdo_1_2 K)).trans (ukzdo_1_2_e C fl k K)))
def ukzdoF {R : Type} (C : Callee) (fl k : Nat) (kx : ukzdot2 R)  (kr : ukzdot0 R) : ukzdot3 R := fun t0 t1 h => kx t0 t1 ((t0.l : Nat) : Int) 0 h
def ukzdo {R : Type} (C : Callee) (fl k : Nat) (kr : ukzdot0 R) : ukzdot3 R := ukzdoF C fl k (ukzdo_1 C fl k kr)  kr
theorem ukzdo_g {R} (C fl k) (cn : ACode) (K : KF R) : (cp2 ukzdos3 (ce C fl k (gcukzdo cn) K)) = ukzdoF C fl k (cp4 ukzdos2 (ce C fl k cn K)) (cp1 ukzdos0 (K .ret)) := by kernel_rfl
theorem ukzdo_e {R} (C fl k) (K : KF R) : (cp2 ukzdos3 (ce C fl k cukzdo K)) = ukzdo C fl k (cp1 ukzdos0 (K .ret)) := (ukzdo_g C fl k cukzdo_1 K).trans (congr1 (fun L0 => ukzdoF C fl k L0 (cp1 ukzdos0 (K .ret))) (ukzdo_1_e C fl k K))
def slices_Index (C : Callee) (fl k : Nat) (p0 : Sl) (p1 : Int) (h : AH) : Option (Value × AH) := ukzdo C fl k (fun y4 q => some (.int .i64 y4, q)) p0 p1 h
theorem slices_Index_run (C fl k) (p0 : Sl) (p1 : Int) (h) : runF C fl k a_slices_Index [.slice p0.a p0.l p0.c, .int .i64 p1] h = slices_Index C fl k p0 p1 h :=
  (runF_ce C fl k a_slices_Index [.slice p0.a p0.l p0.c, .int .i64 p1] h cukzdo (ukzdos3 p0 p1) rfl (by kernel_rfl)).trans ((cp2_ap ukzdos3 (ce C fl k cukzdo (finalK a_slices_Index.results)) p0 p1 h).symm.trans ((congrFun (congrFun (congrFun (ukzdo_e C fl k (finalK a_slices_Index.results)) p0) p1) h).trans (show ukzdo C fl k (cp1 ukzdos0 ((finalK a_slices_Index.results) .ret)) p0 p1 h = slices_Index C fl k p0 p1 h by kernel_rfl)))
def d_slices_Index (C : Callee) (fl k : Nat) (args : List Value) (h : AH) : Option (Value × AH) := match args with
  | [.slice n0a n0l n0c, .int .i64 n1] => slices_Index C fl k ⟨n0a, n0l, n0c⟩ n1 h
  | _ => none
theorem d_slices_Index_run {C : Callee} {fl k : Nat} {args : List Value} {h : AH} {r : Value × AH} (e : d_slices_Index C fl k args h = some r) : runF C fl k a_slices_Index args h = some r := by
  unfold d_slices_Index at e
  split at e
  · rename_i n0a n0l n0c n1; exact (slices_Index_run C fl k ⟨n0a, n0l, n0c⟩ n1 h).trans e
  · cases e
abbrev u3h84t0 (R : Type) := OA → Int → AH → Option R
def u3h84s0 (t6 : OA) (t7 : Int) : List Value := un 6 (vn t6 :: vi t7 :: un 35 [])
def cu3h84 : ACode := .seq (.region [oI 3 (.box (.t 0)), oI 6 (.mv (.c (.pointer none))), oI 7 (.mv (ci 0))] [0, 6, 7]) (.seq (.region [oI 11 (.load (.agg [.int .i64, .int .i64, .slice, .int .i64, .slice]) (.t 3)), oI 12 (.mv (.t 2)), oI 13 (.call (.f 127) [.t 11, .t 12] (.tup [.one .nptr, .one (.int .i64)])), oI 10 (.mv (.t 13)), oI 14 (.extr (.t 10) 0), oI 15 (.extr (.t 10) 1), oI 8 (.mv (.t 14)), oI 9 (.mv (.t 15))] [10, 11, 12, 13, 14, 15]) (.seq (.region [oI 16 (.mv (.t 9)), oI 17 (.cmp .neq .i64 (.t 16) (ci 0))] [16]) (.seq (.cond (.t 17) (.seq (.region [oI 18 (.mv (.t 9)), oI 6 (.mv (.c (.pointer none))), oI 7 (.mv (.t 18))] [1, 2, 3, 8, 9, 17, 18]) (.ret)) (.region [] [9, 17])) (.seq (.region [oI 19 (.mv (.t 1)), oI 20 (.cmp .lss .i64 (.t 19) (ci 0)), oI 21 (.mv (.t 20)), .grp 21 false [qI 22 (.mv (.t 1)), qI 23 (.faddr 4 (.t 3)), qI 24 (.load (.one .slice) (.t 23)), qI 25 (.len (.t 24)), qI 26 (.cmp .gtr .i64 (.t 22) (.t 25))], oI 27 (.pick (.t 21) (.c (.bool true)) (.t 26)), oI 28 (.mv (.t 27)), .grp 28 false [qI 29 (.mv (.t 2)), qI 30 (.cmp .lss .i64 (.t 29) (ci 0))], oI 31 (.pick (.t 28) (.c (.bool true)) (.t 30)), oI 32 (.mv (.t 31)), .grp 32 false [qI 33 (.mv (.t 2)), qI 34 (.faddr 3 (.t 3)), qI 35 (.load (.one (.int .i64)) (.t 34)), qI 36 (.cmp .gtr .i64 (.t 33) (.t 35))], oI 37 (.pick (.t 32) (.c (.bool true)) (.t 36))] [2, 3, 19, 20, 21, 22, 23, 24, 25, 26, 27, 28, 29, 30, 31, 32, 33, 34, 35, 36]) (.seq (.cond (.t 37) (.seq (.region [oI 6 (.mv (.c (.pointer none))), oI 7 (.mv (ci 6))] [1, 8, 37]) (.ret)) (.region [] [37])) (.seq (.region [oI 38 (.mv (.t 8)), oI 39 (.mv (.t 1)), oI 40 (.nilc (.t 38)), oI 41 (.faddr 8 (.t 40)), pI (.store 1 (.t 41) (.t 39))] [1, 38, 39, 40, 41]) (.seq (.region [oI 42 (.mv (.t 8)), oI 6 (.mv (.t 42)), oI 7 (.mv (ci 0))] [8, 42]) (.ret))))))))
abbrev u3h84t1 (R : Type) := Int → Int → Sl → Int → Sl → Int → Int → AH → Option R
def u3h84s1 (t0_0 t0_1 : Int) (t0_2 : Sl) (t0_3 : Int) (t0_4 : Sl) (t1 t2 : Int) : List Value := .agg ⟨[.int .i64 t0_0, .int .i64 t0_1, .slice t0_2.a t0_2.l t0_2.c, .int .i64 t0_3, .slice t0_4.a t0_4.l t0_4.c]⟩ :: vi t1 :: vi t2 :: un 40 []
def a_exclusion_rank : AFunc := ⟨43, cu3h84, [.tmp 6, .tmp 7]⟩
theorem ok_exclusion_rank : okF Tryz.prog 90 a_exclusion_rank = true := by kernel_rfl
def u3h84 {R : Type} (C : Callee) (fl k : Nat) (kr : u3h84t0 R) : u3h84t1 R := fun t0_0 t0_1 t0_2 t0_3 t0_4 t1 t2 h => alc h [.int .i64 t0_0, .int .i64 t0_1, .slice t0_2.a t0_2.l t0_2.c, .int .i64 t0_3, .slice t0_4.a t0_4.l t0_4.c] fun b1 h2 => ldI .i64 h2 b1 0 fun n3 => ldI .i64 h2 b1 1 fun n4 => ldS h2 b1 2 fun s5 => ldI .i64 h2 b1 3 fun n6 => ldS h2 b1 4 fun s7 => callF C fl fn.exclusion_open [.agg ⟨[.int .i64 n3, .int .i64 n4, .slice s5.a s5.l s5.c, .int .i64 n6, .slice s7.a s7.l s7.c]⟩, .int .i64 t2] h2 fun v8 h9 => asTup v8 fun l10 => ucons l10 fun v11 l12 => asNptr v11 fun p13 => ucons l12 fun v14 l15 => asInt .i64 v14 fun n16 => unil l15 (if (n16 != 0) = true then kr none n16 h9 else if decide (t1 < 0) = false then ldS h9 b1 4 fun s17 => if decide (t1 > ((s17.l : Nat) : Int)) = false then if decide (t2 < 0) = false then ldI .i64 h9 b1 3 fun n18 => if decide (t2 > n18) = true then kr none 6 h9 else asPtr (.pointer p13) fun p19 => st fl h9 ⟨p19.block, p19.off + 8, none⟩ [.int .i64 t1] fun h20 => kr p13 0 h20 else kr none 6 h9 else kr none 6 h9 else kr none 6 h9)
theorem u3h84_e {R} (C fl k) (K : KF R) : (cp7 u3h84s1 (ce C fl k cu3h84 K)) = u3h84 C fl k (cp2 u3h84s0 (K .ret)) := by kernel_rfl
def exclusion_rank (C : Callee) (fl k : Nat) (p0_0 p0_1 : Int) (p0_2 : Sl) (p0_3 : Int) (p0_4 : Sl) (p1 p2 : Int) (h : AH) : Option (Value × AH) := u3h84 C fl k (fun y6 y7 q => some (.tuple ⟨[.pointer y6, .int .i64 y7]⟩, q)) p0_0 p0_1 p0_2 p0_3 p0_4 p1 p2 h
theorem exclusion_rank_run (C fl k) (p0_0 p0_1 : Int) (p0_2 : Sl) (p0_3 : Int) (p0_4 : Sl) (p1 p2 : Int) (h) : runF C fl k a_exclusion_rank [.agg ⟨[.int .i64 p0_0, .int .i64 p0_1, .slice p0_2.a p0_2.l p0_2.c, .int .i64 p0_3, .slice p0_4.a p0_4.l p0_4.c]⟩, .int .i64 p1, .int .i64 p2] h = exclusion_rank C fl k p0_0 p0_1 p0_2 p0_3 p0_4 p1 p2 h :=
  (runF_ce C fl k a_exclusion_rank [.agg ⟨[.int .i64 p0_0, .int .i64 p0_1, .slice p0_2.a p0_2.l p0_2.c, .int .i64 p0_3, .slice p0_4.a p0_4.l p0_4.c]⟩, .int .i64 p1, .int .i64 p2] h cu3h84 (u3h84s1 p0_0 p0_1 p0_2 p0_3 p0_4 p1 p2) rfl (by kernel_rfl)).trans ((cp7_ap u3h84s1 (ce C fl k cu3h84 (finalK a_exclusion_rank.results)) p0_0 p0_1 p0_2 p0_3 p0_4 p1 p2 h).symm.trans ((congrFun (congrFun (congrFun (congrFun (congrFun (congrFun (congrFun (congrFun (u3h84_e C fl k (finalK a_exclusion_rank.results)) p0_0) p0_1) p0_2) p0_3) p0_4) p1) p2) h).trans (show u3h84 C fl k (cp2 u3h84s0 ((finalK a_exclusion_rank.results) .ret)) p0_0 p0_1 p0_2 p0_3 p0_4 p1 p2 h = exclusion_rank C fl k p0_0 p0_1 p0_2 p0_3 p0_4 p1 p2 h by kernel_rfl)))
def d_exclusion_rank (C : Callee) (fl k : Nat) (args : List Value) (h : AH) : Option (Value × AH) := match args with
  | [.agg ⟨[.int .i64 n1, .int .i64 n2, .slice n3a n3l n3c, .int .i64 n4, .slice n5a n5l n5c]⟩, .int .i64 n6, .int .i64 n7] => exclusion_rank C fl k n1 n2 ⟨n3a, n3l, n3c⟩ n4 ⟨n5a, n5l, n5c⟩ n6 n7 h
  | _ => none
theorem d_exclusion_rank_run {C : Callee} {fl k : Nat} {args : List Value} {h : AH} {r : Value × AH} (e : d_exclusion_rank C fl k args h = some r) : runF C fl k a_exclusion_rank args h = some r := by
  unfold d_exclusion_rank at e
  split at e
  · rename_i n1 n2 n3a n3l n3c n4 n5a n5l n5c n6 n7; exact (exclusion_rank_run C fl k n1 n2 ⟨n3a, n3l, n3c⟩ n4 ⟨n5a, n5l, n5c⟩ n6 n7 h).trans e
  · cases e
abbrev uhcfkt0 (R : Type) := Addr → Int → AH → Option R
def uhcfks0 (t2 : Addr) (t3 : Int) : List Value := un 2 (vp t2 :: vi t3 :: un 12 [])
def cuhcfk : ACode := .seq (.region [oI 2 (.alloc [.slice none 0 0]), oI 3 (.mv (ci 0))] [3]) (.seq (.region [oI 5 (.mv (.t 0)), oI 6 (.call (.f 128) [.t 5, .c (.slice none 0 0), .c (.slice none 0 0)] (.one (.one (.int .i64)))), oI 4 (.mv (.t 6))] [5, 6]) (.seq (.region [oI 7 (.mv (.t 4)), oI 8 (.cmp .neq .i64 (.t 7) (ci 0))] [7]) (.seq (.cond (.t 8) (.seq (.region [oI 9 (.build [.slice none 0 0] []), oI 10 (.mv (.t 4)), pI (.store 1 (.t 2) (.t 9)), oI 3 (.mv (.t 10))] [0, 4, 8, 9, 10]) (.ret)) (.region [] [4, 8])) (.seq (.region [oI 11 (.mv (.t 0)), oI 12 (.nilc (.t 11)), oI 13 (.faddr 10 (.t 12)), oI 14 (.load (.one .slice) (.t 13)), oI 15 (.build [.slice none 0 0] [(0, 1, .t 14)]), pI (.store 1 (.t 2) (.t 15)), oI 3 (.mv (ci 0))] [0, 11, 12, 13, 14, 15]) (.ret)))))
abbrev uhcfkt1 (R : Type) := OA → AH → Option R
def uhcfks1 (t0 : OA) : List Value := vn t0 :: un 15 []
def a_exclusion_proof_tree : AFunc := ⟨16, cuhcfk, [.cell 2 (.agg [.slice]), .tmp 3]⟩
theorem ok_exclusion_proof_tree : okF Tryz.prog 91 a_exclusion_proof_tree = true := by kernel_rfl
def uhcfk {R : Type} (C : Callee) (fl k : Nat) (kr : uhcfkt0 R) : uhcfkt1 R := fun t0 h => alc h [.slice none 0 0] fun b1 h2 => callF C fl fn.exclusion_proof_build [.pointer t0, .slice none 0 0, .slice none 0 0] h2 fun v3 h4 => asInt .i64 v3 fun n5 => if (n5 != 0) = true then st fl h4 ⟨b1, 0, none⟩ [.slice none 0 0] fun h6 => kr ⟨b1, 0, none⟩ n5 h6 else asPtr (.pointer t0) fun p7 => ldS h4 p7.block (p7.off + 10) fun s8 => st fl h4 ⟨b1, 0, none⟩ [.slice s8.a s8.l s8.c] fun h9 => kr ⟨b1, 0, none⟩ 0 h9
theorem uhcfk_e {R} (C fl k) (K : KF R) : (cp1 uhcfks1 (ce C fl k cuhcfk K)) = uhcfk C fl k (cp2 uhcfks0 (K .ret)) := by kernel_rfl
def exclusion_proof_tree (C : Callee) (fl k : Nat) (p0 : OA) (h : AH) : Option (Value × AH) := uhcfk C fl k (fun y2 y3 q => ldS q y2.block y2.off fun s10 => some (.tuple ⟨[.agg ⟨[.slice s10.a s10.l s10.c]⟩, .int .i64 y3]⟩, q)) p0 h
theorem exclusion_proof_tree_run (C fl k) (p0 : OA) (h) : runF C fl k a_exclusion_proof_tree [.pointer p0] h = exclusion_proof_tree C fl k p0 h :=
  (runF_ce C fl k a_exclusion_proof_tree [.pointer p0] h cuhcfk (uhcfks1 p0) rfl (by kernel_rfl)).trans ((cp1_ap uhcfks1 (ce C fl k cuhcfk (finalK a_exclusion_proof_tree.results)) p0 h).symm.trans ((congrFun (congrFun (uhcfk_e C fl k (finalK a_exclusion_proof_tree.results)) p0) h).trans (show uhcfk C fl k (cp2 uhcfks0 ((finalK a_exclusion_proof_tree.results) .ret)) p0 h = exclusion_proof_tree C fl k p0 h by kernel_rfl)))
def d_exclusion_proof_tree (C : Callee) (fl k : Nat) (args : List Value) (h : AH) : Option (Value × AH) := match args with
  | [.pointer n0] => exclusion_proof_tree C fl k n0 h
  | _ => none
theorem d_exclusion_proof_tree_run {C : Callee} {fl k : Nat} {args : List Value} {h : AH} {r : Value × AH} (e : d_exclusion_proof_tree C fl k args h = some r) : runF C fl k a_exclusion_proof_tree args h = some r := by
  unfold d_exclusion_proof_tree at e
  split at e
  · rename_i n0; exact (exclusion_proof_tree_run C fl k n0 h).trans e
  · cases e
abbrev ulafst0 (R : Type) := Int → AH → Option R
def ulafss0 (t4 : Int) : List Value := un 4 (vi t4 :: un 23 [])
def culafs_1 : ACode := .seq (.region [oI 27 (.mv (.t 5)), oI 4 (.mv (.t 27))] [5, 27]) (.ret)
abbrev ulafst1 (R : Type) := Int → AH → Option R
def ulafss1 (t5 : Int) : List Value := un 5 (vi t5 :: un 22 [])
def gculafs (cn : ACode) : ACode := .seq (.seq (.region [oI 3 (.box (.t 1)), oI 4 (.mv (ci 0))] [1, 4]) (.seq (.region [oI 6 (.mv (.t 0)), oI 7 (.faddr 0 (.t 3)), oI 8 (.load (.one .slice) (.t 7)), oI 9 (.nilc (.t 6)), oI 10 (.faddr 10 (.t 9)), pI (.store 1 (.t 10) (.t 8))] [3, 6, 7, 8, 9, 10]) (.seq (.region [oI 11 (.mv (.t 0)), oI 12 (.call (.f 134) [.t 11, .c (.slice none 0 0), .c (.slice none 0 0)] (.one (.one (.int .i64)))), oI 5 (.mv (.t 12))] [11, 12]) (.seq (.region [oI 13 (.mv (.t 5)), oI 14 (.cmp .eql .i64 (.t 13) (ci 0)), oI 15 (.mv (.t 14)), .grp 15 true [qI 16 (.mv (.t 0)), qI 17 (.nilc (.t 16)), qI 18 (.faddr 11 (.t 17)), qJ 19 (.load (.one (.int .i64)) (.t 18)), qI 20 (.mv (.t 0)), qI 21 (.nilc (.t 20)), qI 22 (.faddr 10 (.t 21)), qJ 23 (.load (.one .slice) (.t 22)), qI 24 (.len (.t 23)), qI 25 (.cmp .lss .i64 (.t 19) (.t 24))], oI 26 (.pick (.t 15) (.t 25) (.c (.bool false)))] [0, 13, 14, 15, 16, 17, 18, 19, 20, 21, 22, 23, 24, 25]) (.cond (.t 26) (.seq (.region [oI 4 (.mv (ci 13))] [5, 26]) (.ret)) (.region [] [26])))))) cn
def culafs : ACode := gculafs culafs_1
abbrev ulafst2 (R : Type) := OA → Sl → AH → Option R
def ulafss2 (t0 : OA) (t1_0 : Sl) : List Value := vn t0 :: .agg ⟨[.slice t1_0.a t1_0.l t1_0.c]⟩ :: un 26 []
def a_exclusion_proof_proves : AFunc := ⟨28, culafs, [.tmp 4]⟩
theorem ok_exclusion_proof_proves : okF Tryz.prog 94 a_exclusion_proof_proves = true := by kernel_rfl
def ulafs_1 {R : Type} (C : Callee) (fl k : Nat) (kr : ulafst0 R) : ulafst1 R := fun t5 h => kr t5 h
theorem ulafs_1_e {R} (C fl k) (K : KF R) : (cp1 ulafss1 (ce C fl k culafs_1 K)) = ulafs_1 C fl k (cp1 ulafss0 (K .ret)) := by kernel_rfl
def ulafsF {R : Type} (C : Callee) (fl k : Nat) (kx : ulafst1 R)  (kr : ulafst0 R) : ulafst2 R := fun t0 t1_0 h => alc h [.slice t1_0.a t1_0.l t1_0.c] fun b1 h2 => ldS h2 b1 0 fun s3 => asPtr (.pointer t0) fun p4 => st fl h2 ⟨p4.block, p4.off + 10, none⟩ [.slice s3.a s3.l s3.c] fun h5 => callF C fl fn.exclusion_proof_check [.pointer t0, .slice none 0 0, .slice none 0 0] h5 fun v6 h7 => asInt .i64 v6 fun n8 => if (n8 == 0) = true then asPtr (.pointer t0) fun p9 => ldI .i64 h7 p9.block (p9.off + 11) fun n10 => asPtr (.pointer t0) fun p11 => ldS h7 p11.block (p11.off + 10) fun s12 => if decide (n10 < ((s12.l : Nat) : Int)) = true then kr 13 h7 else kx n8 h7 else kx n8 h7
def ulafs {R : Type} (C : Callee) (fl k : Nat) (kr : ulafst0 R) : ulafst2 R := ulafsF C fl k (ulafs_1 C fl k kr)  kr
theorem ulafs_g {R} (C fl k) (cn : ACode) (K : KF R) : (cp2 ulafss2 (ce C fl k (gculafs cn) K)) = ulafsF C fl k (cp1 ulafss1 (ce C fl k cn K)) (cp1 ulafss0 (K .ret)) := by kernel_rfl
theorem ulafs_e {R} (C fl k) (K : KF R) : (cp2 ulafss2 (ce C fl k culafs K)) = ulafs C fl k (cp1 ulafss0 (K .ret)) := (ulafs_g C fl k culafs_1 K).trans (congr1 (fun L0 => ulafsF C fl k L0 (cp1 ulafss0 (K .ret))) (ulafs_1_e C fl k K))
def exclusion_proof_proves (C : Callee) (fl k : Nat) (p0 : OA) (p1_0 : Sl) (h : AH) : Option (Value × AH) := ulafs C fl k (fun y4 q => some (.int .i64 y4, q)) p0 p1_0 h
theorem exclusion_proof_proves_run (C fl k) (p0 : OA) (p1_0 : Sl) (h) : runF C fl k a_exclusion_proof_proves [.pointer p0, .agg ⟨[.slice p1_0.a p1_0.l p1_0.c]⟩] h = exclusion_proof_proves C fl k p0 p1_0 h :=
  (runF_ce C fl k a_exclusion_proof_proves [.pointer p0, .agg ⟨[.slice p1_0.a p1_0.l p1_0.c]⟩] h culafs (ulafss2 p0 p1_0) rfl (by kernel_rfl)).trans ((cp2_ap ulafss2 (ce C fl k culafs (finalK a_exclusion_proof_proves.results)) p0 p1_0 h).symm.trans ((congrFun (congrFun (congrFun (ulafs_e C fl k (finalK a_exclusion_proof_proves.results)) p0) p1_0) h).trans (show ulafs C fl k (cp1 ulafss0 ((finalK a_exclusion_proof_proves.results) .ret)) p0 p1_0 h = exclusion_proof_proves C fl k p0 p1_0 h by kernel_rfl)))
def d_exclusion_proof_proves (C : Callee) (fl k : Nat) (args : List Value) (h : AH) : Option (Value × AH) := match args with
  | [.pointer n0, .agg ⟨[.slice n2a n2l n2c]⟩] => exclusion_proof_proves C fl k n0 ⟨n2a, n2l, n2c⟩ h
  | _ => none
theorem d_exclusion_proof_proves_run {C : Callee} {fl k : Nat} {args : List Value} {h : AH} {r : Value × AH} (e : d_exclusion_proof_proves C fl k args h = some r) : runF C fl k a_exclusion_proof_proves args h = some r := by
  unfold d_exclusion_proof_proves at e
  split at e
  · rename_i n0 n2a n2l n2c; exact (exclusion_proof_proves_run C fl k n0 ⟨n2a, n2l, n2c⟩ h).trans e
  · cases e
abbrev ukajbt0 (R : Type) := Bool → AH → Option R
def ukajbs0 (t4 : Bool) : List Value := un 4 (.bool t4 :: un 100 [])
def cukajb_1_2 : ACode := .seq (.region [oI 63 (.mv (.t 1)), oI 64 (.call (.f 39) [.t 63, .f 138] (.one (.one (.int .i64)))), oI 10 (.mv (.t 64))] [63, 64]) (.seq (.region [oI 65 (.mv (.t 10)), oI 66 (.cmp .lss .i64 (.t 65) (ci 0))] [65]) (.seq (.cond (.t 66) (.seq (.region [oI 4 (.mv (.c (.bool false)))] [0, 1, 10, 66]) (.ret)) (.region [] [66])) (.seq (.region [oI 68 (.mv (.t 0)), oI 69 (.nilc (.t 68)), oI 70 (.faddr 0 (.t 69)), oJ 71 (.load (.one .nptr) (.t 70)), oI 72 (.mv (.t 1)), oI 73 (.mv (.t 10)), oI 74 (.iaddr 1 (.t 72) (.t 73)), oJ 75 (.load (.one (.int .i64)) (.t 74)), oI 76 (.call (.f 139) [.t 71, .t 75] (.tup [.one (.int .i64), .one (.int .i64)])), oI 67 (.mv (.t 76)), oI 77 (.extr (.t 67) 0), oI 78 (.extr (.t 67) 1), oI 11 (.mv (.t 77)), oI 12 (.mv (.t 78))] [12, 67, 68, 69, 70, 71, 72, 73, 74, 75, 76, 77, 78]) (.seq (.region [oI 79 (.mv (.t 0)), oI 80 (.mv (.t 0)), oI 81 (.nilc (.t 80)), oI 82 (.faddr 1 (.t 81)), oJ 83 (.load (.one .slice) (.t 82)), oI 84 (.mv (.t 0)), oI 85 (.nilc (.t 84)), oI 86 (.faddr 0 (.t 85)), oJ 87 (.load (.one .nptr) (.t 86)), oI 88 (.mv (.t 11)), oI 89 (.mv (.t 1)), oJ 90 (.call (.f 140) [.t 87, .t 88, .t 89] (.one (.one .slice))), oJ 91 (.bslice 1 [.slice none 0 0] [(0, 1, .t 90)]), oI 92 (.append 1 24 (.t 83) (.t 91)), oI 93 (.nilc (.t 79)), oI 94 (.faddr 1 (.t 93)), pI (.store 1 (.t 94) (.t 92))] [1, 11, 79, 80, 81, 82, 83, 84, 85, 86, 87, 88, 89, 90, 91, 92, 93, 94]) (.seq (.region [oI 95 (.mv (.t 0)), oI 96 (.mv (.t 0)), oI 97 (.nilc (.t 96)), oI 98 (.faddr 2 (.t 97)), oI 99 (.load (.one .slice) (.t 98)), oI 100 (.mv (.t 10)), oI 101 (.bslice 1 [.int .i64 0] [(0, 1, .t 100)]), oI 102 (.append 1 8 (.t 99) (.t 101)), oI 103 (.nilc (.t 95)), oI 104 (.faddr 2 (.t 103)), pI (.store 1 (.t 104) (.t 102))] [0, 10, 95, 96, 97, 98, 99, 100, 101, 102, 103, 104]) (.seq (.region [oI 4 (.mv (.c (.bool true)))] []) (.ret)))))))
abbrev ukajbt1 (R : Type) := OA → Sl → AH → Option R
def ukajbs1 (t0 : OA) (t1 : Sl) : List Value := vn t0 :: t1.v :: un 103 []
abbrev ukajbt2 (R : Type) := OA → Sl → Sl → Int → Int → AH → Option R
def ukajbs2 (t0 : OA) (t1 t16 : Sl) (t17 t18 : Int) : List Value := vn t0 :: t1.v :: un 14 (t16.v :: vi t17 :: vi t18 :: un 86 [])
def cukajb_1_b_3_4 : ACode := .region [oI 62 (.bin .add .i64 (.t 18) (ci 1)), oI 18 (.mv (.t 62))] [62]
abbrev ukajbt3 (R : Type) := OA → Sl → Int → Sl → Int → Int → Sl → Int → Int → AH → Option R
def ukajbs3 (t0 : OA) (t1 : Sl) (t7 : Int) (t16 : Sl) (t17 t18 : Int) (t35 : Sl) (t36 t37 : Int) : List Value := vn t0 :: t1.v :: un 5 (vi t7 :: un 8 (t16.v :: vi t17 :: vi t18 :: un 16 (t35.v :: vi t36 :: vi t37 :: un 67 [])))
def cukajb_1_b_3_u_5_t_6_b : ACode := .seq (.region [oI 38 (.cmp .lss .i64 (.t 37) (.t 36))] []) (.seq (.cond (.t 38) (.region [] [38]) (.seq (.region [] [7, 35, 36, 37, 38]) (.exit 2))) (.seq (.block 3 (.seq (.region [oI 39 (.mv (.t 37)), oI 40 (.iaddr 1 (.t 35) (.t 37)), oI 41 (.load (.one (.int .i64)) (.t 40)), oI 8 (.mv (.t 39)), oI 9 (.mv (.t 41))] [39, 40, 41]) (.region [oI 42 (.mv (.t 1)), oI 43 (.mv (.t 8)), oI 44 (.mv (.t 0)), oI 45 (.nilc (.t 44)), oI 46 (.faddr 0 (.t 45)), oJ 47 (.load (.one .nptr) (.t 46)), oI 48 (.mv (.t 1)), oI 49 (.mv (.t 8)), oI 50 (.iaddr 1 (.t 48) (.t 49)), oJ 51 (.load (.one (.int .i64)) (.t 50)), oI 52 (.mv (.t 0)), oI 53 (.nilc (.t 52)), oI 54 (.faddr 0 (.t 53)), oJ 55 (.load (.one .nptr) (.t 54)), oI 56 (.mv (.t 7)), oI 57 (.mv (.t 9)), oJ 58 (.call (.f 120) [.t 55, .t 56, .t 57] (.one (.one (.int .i64)))), oI 59 (.call (.f 119) [.t 47, .t 51, .t 58] (.one (.one (.int .i64)))), oI 60 (.iaddr 1 (.t 42) (.t 43)), pI (.store 1 (.t 60) (.t 59))] [8, 9, 42, 43, 44, 45, 46, 47, 48, 49, 50, 51, 52, 53, 54, 55, 56, 57, 58, 59, 60]))) (.region [oI 61 (.bin .add .i64 (.t 37) (ci 1)), oI 37 (.mv (.t 61))] [61])))
def cukajb_1_b_3_u_5_t_6 : ACode := .block 2 (.loop cukajb_1_b_3_u_5_t_6_b)
def gcukajb_1_b_3_u_5_t (cn : ACode) : ACode := .seq (.region [oI 35 (.mv (.t 6)), oI 36 (.len (.t 35)), oI 37 (.mv (ci 0))] [6, 34]) cn
def cukajb_1_b_3_u_5_t : ACode := gcukajb_1_b_3_u_5_t cukajb_1_b_3_u_5_t_6
abbrev ukajbt4 (R : Type) := OA → Sl → Sl → Int → Sl → Int → Int → Bool → AH → Option R
def ukajbs4 (t0 : OA) (t1 t6 : Sl) (t7 : Int) (t16 : Sl) (t17 t18 : Int) (t34 : Bool) : List Value := vn t0 :: t1.v :: un 4 (t6.v :: vi t7 :: un 8 (t16.v :: vi t17 :: vi t18 :: un 15 (.bool t34 :: un 70 [])))
def gcukajb_1_b_3_u_5 (cu0 : ACode) : ACode := .cond (.t 34) cu0 (.region [] [6, 7, 34])
def cukajb_1_b_3_u_5 : ACode := gcukajb_1_b_3_u_5 cukajb_1_b_3_u_5_t
def gcukajb_1_b_3_u (cn : ACode) : ACode := .seq (.seq (.region [oI 20 (.mv (.t 18)), oI 21 (.iaddr 1 (.t 16) (.t 18)), oI 22 (.load (.one .slice) (.t 21)), oI 5 (.mv (.t 20)), oI 6 (.mv (.t 22))] [20, 21, 22]) (.seq (.region [oI 23 (.mv (.t 1)), oI 24 (.mv (.t 0)), oI 25 (.nilc (.t 24)), oI 26 (.faddr 2 (.t 25)), oI 27 (.load (.one .slice) (.t 26)), oI 28 (.mv (.t 5)), oI 29 (.iaddr 1 (.t 27) (.t 28)), oI 30 (.load (.one (.int .i64)) (.t 29)), oI 31 (.iaddr 1 (.t 23) (.t 30)), oI 32 (.load (.one (.int .i64)) (.t 31)), oI 7 (.mv (.t 32))] [5, 23, 24, 25, 26, 27, 28, 29, 30, 31, 32]) (.region [oI 33 (.mv (.t 7)), oI 34 (.cmp .neq .i64 (.t 33) (ci 0))] [33]))) cn
def cukajb_1_b_3_u : ACode := gcukajb_1_b_3_u cukajb_1_b_3_u_5
def gcukajb_1_b_3 (cn cu0 : ACode) : ACode := .seq (.block 1 cu0) cn
def cukajb_1_b_3 : ACode := gcukajb_1_b_3 cukajb_1_b_3_4 cukajb_1_b_3_u
def gcukajb_1_b (cn : ACode) : ACode := .seq (.seq (.region [oI 19 (.cmp .lss .i64 (.t 18) (.t 17))] []) (.cond (.t 19) (.region [] [19]) (.seq (.region [] [16, 17, 18, 19]) (.exit 0)))) cn
def cukajb_1_b : ACode := gcukajb_1_b cukajb_1_b_3
def cukajb_1 : ACode := .seq (.block 0 (.loop cukajb_1_b)) cukajb_1_2
def gcukajb (cn : ACode) : ACode := .seq (.seq (.region [oI 4 (.mv (.c (.bool false)))] [4]) (.region [oI 13 (.mv (.t 0)), oI 14 (.nilc (.t 13)), oI 15 (.faddr 1 (.t 14)), oI 16 (.load (.one .slice) (.t 15)), oI 17 (.len (.t 16)), oI 18 (.mv (ci 0))] [13, 14, 15])) cn
def cukajb : ACode := gcukajb cukajb_1
def a_infoset_basis_add : AFunc := ⟨105, cukajb, [.tmp 4]⟩
theorem ok_infoset_basis_add : okF Tryz.prog 100 a_infoset_basis_add = true := by kernel_rfl
def ukajb_1_2 {R : Type} (C : Callee) (fl k : Nat) (kr : ukajbt0 R) : ukajbt1 R := fun t0 t1 h => callF C fl fn.slices_IndexFunc_39 [.slice t1.a t1.l t1.c, .func (.func fn.infoset_basis_add_1) ⟨[]⟩ ⟨[]⟩] h fun v1 h2 => asInt .i64 v1 fun n3 => if decide (n3 < 0) = true then kr false h2 else asPtr (.pointer t0) fun p4 => ldN h2 p4.block p4.off fun p5 => idx 1 t1 n3 fun p6 => ldI .i64 h2 p6.block p6.off fun n7 => callF C fl fn.field_GF_Inv [.pointer p5, .int .i64 n7] h2 fun v8 h9 => asTup v8 fun l10 => ucons l10 fun v11 l12 => asInt .i64 v11 fun n13 => ucons l12 fun v14 l15 => asInt .i64 v14 fun n16 => unil l15 (asPtr (.pointer t0) fun p17 => ldS h9 p17.block (p17.off + 1) fun s18 => asPtr (.pointer t0) fun p19 => ldN h9 p19.block p19.off fun p20 => callF C h9.next fn.field_GF_Scale [.pointer p20, .int .i64 n13, .slice t1.a t1.l t1.c] h9 fun v21 h22 => asSl v21 fun s23 => alc h22 [.slice s23.a s23.l s23.c] fun b24 h25 => apnd fl 1 24 s18 ⟨(some ⟨b24, 0, none⟩), 1, 1⟩ h25 fun s26 h27 => asPtr (.pointer t0) fun p28 => st fl h27 ⟨p28.block, p28.off + 1, none⟩ [.slice s26.a s26.l s26.c] fun h29 => asPtr (.pointer t0) fun p30 => ldS h29 p30.block (p30.off + 2) fun s31 => alc h29 [.int .i64 n3] fun b32 h33 => apnd fl 1 8 s31 ⟨(some ⟨b32, 0, none⟩), 1, 1⟩ h33 fun s34 h35 => asPtr (.pointer t0) fun p36 => st fl h35 ⟨p36.block, p36.off + 2, none⟩ [.slice s34.a s34.l s34.c] fun h37 => kr true h37)
theorem ukajb_1_2_e {R} (C fl k) (K : KF R) : (cp2 ukajbs1 (ce C fl k cukajb_1_2 K)) = ukajb_1_2 C fl k (cp1 ukajbs0 (K .ret)) := by kernel_rfl
def ukajb_1_b_3_4 {R : Type} (C : Callee) (fl k : Nat) (kn : ukajbt2 R) (e0 : ukajbt1 R) : ukajbt2 R := fun t0 t1 t16 t17 t18 h => kn t0 t1 t16 t17 (w64 (t18 + 1)) h
theorem ukajb_1_b_3_4_e {R} (C fl k) (K : KF R) : (cp5 ukajbs2 (ce C fl k cukajb_1_b_3_4 K)) = ukajb_1_b_3_4 C fl k (cp5 ukajbs2 (K .normal)) (cp2 ukajbs1 (K (.exit 0))) := by kernel_rfl
def ukajb_1_b_3_u_5_t_6_b {R : Type} (C : Callee) (fl k : Nat) (kn : ukajbt3 R) (e2 : ukajbt2 R) : ukajbt3 R := fun t0 t1 t7 t16 t17 t18 t35 t36 t37 h => if decide (t37 < t36) = true then idx 1 t35 t37 fun p38 => ldI .i64 h p38.block p38.off fun n39 => asPtr (.pointer t0) fun p40 => ldN h p40.block p40.off fun p41 => idx 1 t1 t37 fun p42 => ldI .i64 h p42.block p42.off fun n43 => asPtr (.pointer t0) fun p44 => ldN h p44.block p44.off fun p45 => callF C h.next fn.field_GF_Mul [.pointer p45, .int .i64 t7, .int .i64 n39] h fun v46 h47 => asInt .i64 v46 fun n48 => callF C fl fn.field_GF_Sub [.pointer p41, .int .i64 n43, .int .i64 n48] h47 fun v49 h50 => asInt .i64 v49 fun n51 => idx 1 t1 t37 fun p52 => st fl h50 p52 [.int .i64 n51] fun h53 => kn t0 t1 t7 t16 t17 t18 t35 t36 (w64 (t37 + 1)) h53 else e2 t0 t1 t16 t17 t18 h
theorem ukajb_1_b_3_u_5_t_6_b_e {R} (C fl k) (K : KF R) : (cp9 ukajbs3 (ce C fl k cukajb_1_b_3_u_5_t_6_b K)) = ukajb_1_b_3_u_5_t_6_b C fl k (cp9 ukajbs3 (K .normal)) (cp5 ukajbs2 (K (.exit 2))) := by kernel_rfl
def ukajb_1_b_3_u_5_t_6_l {R : Type} (C : Callee) (fl k : Nat) (kn : ukajbt2 R) : Nat → ukajbt3 R
  | 0 => fun _ _ _ _ _ _ _ _ _ _ => none
  | m + 1 => ukajb_1_b_3_u_5_t_6_b C fl k (ukajb_1_b_3_u_5_t_6_l C fl k kn m) kn
theorem ukajb_1_b_3_u_5_t_6_l_p {R} (C fl k) (K : KF R) : ∀ m, (cp9 ukajbs3 (loopK m (kstep C fl k cukajb_1_b_3_u_5_t_6_b 2 K))) = ukajb_1_b_3_u_5_t_6_l C fl k (cp5 ukajbs2 (K .normal)) m
  | 0 => by kernel_rfl
  | m + 1 => (congr1 (fun g => (cp9 ukajbs3 (g))) (loop_ce C fl k cukajb_1_b_3_u_5_t_6_b 2 K m)).trans ((ukajb_1_b_3_u_5_t_6_b_e C fl k _).trans (congr1 (fun L => ukajb_1_b_3_u_5_t_6_b C fl k L (cp5 ukajbs2 (K .normal))) (ukajb_1_b_3_u_5_t_6_l_p C fl k K m)))
theorem ukajb_1_b_3_u_5_t_6_l_e {R} (C fl k) (K : KF R) : (cp9 ukajbs3 (ce C fl k (.block 2 (.loop cukajb_1_b_3_u_5_t_6_b)) K)) = ukajb_1_b_3_u_5_t_6_l C fl k (cp5 ukajbs2 (K .normal)) k := (congr1 (fun g => (cp9 ukajbs3 (g))) (ce_loop C fl k cukajb_1_b_3_u_5_t_6_b 2 K)).trans (ukajb_1_b_3_u_5_t_6_l_p C fl k K k)
def ukajb_1_b_3_u_5_t_6 {R : Type} (C : Callee) (fl k : Nat) (kn : ukajbt2 R) : ukajbt3 R := ukajb_1_b_3_u_5_t_6_l C fl k kn k
theorem ukajb_1_b_3_u_5_t_6_e {R} (C fl k) (K : KF R) : (cp9 ukajbs3 (ce C fl k cukajb_1_b_3_u_5_t_6 K)) = ukajb_1_b_3_u_5_t_6 C fl k (cp5 ukajbs2 (K .normal)) := ukajb_1_b_3_u_5_t_6_l_e C fl k K
def ukajb_1_b_3_u_5_tF {R : Type} (C : Callee) (fl k : Nat) (kx : ukajbt3 R)  (kn : ukajbt2 R) : ukajbt4 R := fun t0 t1 t6 t7 t16 t17 t18 t34 h => kx t0 t1 t7 t16 t17 t18 t6 ((t6.l : Nat) : Int) 0 h
def ukajb_1_b_3_u_5_t {R : Type} (C : Callee) (fl k : Nat) (kn : ukajbt2 R) : ukajbt4 R := ukajb_1_b_3_u_5_tF C fl k (ukajb_1_b_3_u_5_t_6 C fl k kn)  kn
theorem ukajb_1_b_3_u_5_t_g {R} (C fl k) (cn : ACode) (K : KF R) : (cp8 ukajbs4 (ce C fl k (gcukajb_1_b_3_u_5_t cn) K)) = ukajb_1_b_3_u_5_tF C fl k (cp9 ukajbs3 (ce C fl k cn K)) (cp5 ukajbs2 (K .normal)) := by kernel_rfl
theorem ukajb_1_b_3_u_5_t_e {R} (C fl k) (K : KF R) : (cp8 ukajbs4 (ce C fl k cukajb_1_b_3_u_5_t K)) = ukajb_1_b_3_u_5_t C fl k (cp5 ukajbs2 (K .normal)) := (ukajb_1_b_3_u_5_t_g C fl k cukajb_1_b_3_u_5_t_6 K).trans (congr1 (fun L0 => ukajb_1_b_3_u_5_tF C fl k L0 (cp5 ukajbs2 (K .normal))) (ukajb_1_b_3_u_5_t_6_e C fl k K))
def ukajb_1_b_3_u_5F {R : Type} (C : Callee) (fl k : Nat)  (u0 : ukajbt4 R) (kn : ukajbt2 R) : ukajbt4 R := fun t0 t1 t6 t7 t16 t17 t18 t34 h => if t34 = true then u0 t0 t1 t6 t7 t16 t17 t18 t34 h else kn t0 t1 t16 t17 t18 h
def ukajb_1_b_3_u_5 {R : Type} (C : Callee) (fl k : Nat) (kn : ukajbt2 R) : ukajbt4 R := ukajb_1_b_3_u_5F C fl k  (ukajb_1_b_3_u_5_t C fl k kn) kn
theorem ukajb_1_b_3_u_5_g {R} (C fl k) (cu0 : ACode) (K : KF R) : (cp8 ukajbs4 (ce C fl k (gcukajb_1_b_3_u_5 cu0) K)) = ukajb_1_b_3_u_5F C fl k (cp8 ukajbs4 (ce C fl k cu0 K)) (cp5 ukajbs2 (K .normal)) := by kernel_rfl
theorem ukajb_1_b_3_u_5_e {R} (C fl k) (K : KF R) : (cp8 ukajbs4 (ce C fl k cukajb_1_b_3_u_5 K)) = ukajb_1_b_3_u_5 C fl k (cp5 ukajbs2 (K .normal)) := (ukajb_1_b_3_u_5_g C fl k cukajb_1_b_3_u_5_t K).trans (congr1 (fun L0 => ukajb_1_b_3_u_5F C fl k L0 (cp5 ukajbs2 (K .normal))) (ukajb_1_b_3_u_5_t_e C fl k K))
def ukajb_1_b_3_uF {R : Type} (C : Callee) (fl k : Nat) (kx : ukajbt4 R)  (kn : ukajbt2 R) : ukajbt2 R := fun t0 t1 t16 t17 t18 h => idx 1 t16 t18 fun p54 => ldS h p54.block p54.off fun s55 => asPtr (.pointer t0) fun p56 => ldS h p56.block (p56.off + 2) fun s57 => idx 1 s57 t18 fun p58 => ldI .i64 h p58.block p58.off fun n59 => idx 1 t1 n59 fun p60 => ldI .i64 h p60.block p60.off fun n61 => kx t0 t1 s55 n61 t16 t17 t18 (n61 != 0) h
def ukajb_1_b_3_u {R : Type} (C : Callee) (fl k : Nat) (kn : ukajbt2 R) : ukajbt2 R := ukajb_1_b_3_uF C fl k (ukajb_1_b_3_u_5 C fl k kn)  kn
theorem ukajb_1_b_3_u_g {R} (C fl k) (cn : ACode) (K : KF R) : (cp5 ukajbs2 (ce C fl k (gcukajb_1_b_3_u cn) K)) = ukajb_1_b_3_uF C fl k (cp8 ukajbs4 (ce C fl k cn K)) (cp5 ukajbs2 (K .normal)) := by kernel_rfl
theorem ukajb_1_b_3_u_e {R} (C fl k) (K : KF R) : (cp5 ukajbs2 (ce C fl k cukajb_1_b_3_u K)) = ukajb_1_b_3_u C fl k (cp5 ukajbs2 (K .normal)) := (ukajb_1_b_3_u_g C fl k cukajb_1_b_3_u_5 K).trans (congr1 (fun L0 => ukajb_1_b_3_uF C fl k L0 (cp5 ukajbs2 (K .normal))) (ukajb_1_b_3_u_5_e C fl k K))
def ukajb_1_b_3F {R : Type} (C : Callee) (fl k : Nat) (kx : ukajbt2 R) (u0 : ukajbt2 R) (kn : ukajbt2 R) (e0 : ukajbt1 R) : ukajbt2 R := fun t0 t1 t16 t17 t18 h => u0 t0 t1 t16 t17 t18 h
def ukajb_1_b_3 {R : Type} (C : Callee) (fl k : Nat) (kn : ukajbt2 R) (e0 : ukajbt1 R) : ukajbt2 R := ukajb_1_b_3F C fl k (ukajb_1_b_3_4 C fl k kn e0) (ukajb_1_b_3_u C fl k (ukajb_1_b_3_4 C fl k kn e0)) kn e0
theorem ukajb_1_b_3_g {R} (C fl k) (cn cu0 : ACode) (K : KF R) : (cp5 ukajbs2 (ce C fl k (gcukajb_1_b_3 cn cu0) K)) = ukajb_1_b_3F C fl k (cp5 ukajbs2 (ce C fl k cn K)) (cp5 ukajbs2 (ce C fl k cu0 (kblk 1 (kseq C fl k cn K)))) (cp5 ukajbs2 (K .normal)) (cp2 ukajbs1 (K (.exit 0))) := by kernel_rfl
theorem ukajb_1_b_3_e {R} (C fl k) (K : KF R) : (cp5 ukajbs2 (ce C fl k cukajb_1_b_3 K)) = ukajb_1_b_3 C fl k (cp5 ukajbs2 (K .normal)) (cp2 ukajbs1 (K (.exit 0))) := (ukajb_1_b_3_g C fl k cukajb_1_b_3_4 cukajb_1_b_3_u K).trans (congr2 (fun L0 L1 => ukajb_1_b_3F C fl k L0 L1 (cp5 ukajbs2 (K .normal)) (cp2 ukajbs1 (K (.exit 0)))) (ukajb_1_b_3_4_e C fl k K) ((ukajb_1_b_3_u_e C fl k (kblk 1 (kseq C fl k cukajb_1_b_3_4 K))).trans (congr1 (fun L0 => ukajb_1_b_3_u C fl k L0) ((congr1 (fun g => (cp5 ukajbs2 (g))) (blk_n C fl k cukajb_1_b_3_4 1 K)).trans (ukajb_1_b_3_4_e C fl k K)))))
def ukajb_1_bF {R : Type} (C : Callee) (fl k : Nat) (kx : ukajbt2 R)  (kn : ukajbt2 R) (e0 : ukajbt1 R) : ukajbt2 R := fun t0 t1 t16 t17 t18 h => if decide (t18 < t17) = true then kx t0 t1 t16 t17 t18 h else e0 t0 t1 h
def ukajb_1_b {R : Type} (C : Callee) (fl k : Nat) (kn : ukajbt2 R) (e0 : ukajbt1 R) : ukajbt2 R := ukajb_1_bF C fl k (ukajb_1_b_3 C fl k kn e0)  kn e0
theorem ukajb_1_b_g {R} (C fl k) (cn : ACode) (K : KF R) : (cp5 ukajbs2 (ce C fl k (gcukajb_1_b cn) K)) = ukajb_1_bF C fl k (cp5 ukajbs2 (ce C fl k cn K)) (cp5 ukajbs2 (K .normal)) (cp2 ukajbs1 (K (.exit 0))) := by kernel_rfl
theorem ukajb_1_b_e {R} (C fl k) (K : KF R) : (cp5 ukajbs2 (ce C fl k cukajb_1_b K)) = ukajb_1_b C fl k (cp5 ukajbs2 (K .normal)) (cp2 ukajbs1 (K (.exit 0))) := (ukajb_1_b_g C fl k cukajb_1_b_3 K).trans (congr1 (fun L0 => ukajb_1_bF C fl k L0 (cp5 ukajbs2 (K .normal)) (cp2 ukajbs1 (K (.exit 0)))) (ukajb_1_b_3_e C fl k K))
def ukajb_1_l {R : Type} (C : Callee) (fl k : Nat) (kn : ukajbt1 R) : Nat → ukajbt2 R
  | 0 => fun _ _ _ _ _ _ => none
  | m + 1 => ukajb_1_b C fl k (ukajb_1_l C fl k kn m) kn
theorem ukajb_1_l_p {R} (C fl k) (K : KF R) : ∀ m, (cp5 ukajbs2 (loopK m (kstep C fl k cukajb_1_b 0 K))) = ukajb_1_l C fl k (cp2 ukajbs1 (K .normal)) m
  | 0 => by kernel_rfl
  | m + 1 => (congr1 (fun g => (cp5 ukajbs2 (g))) (loop_ce C fl k cukajb_1_b 0 K m)).trans ((ukajb_1_b_e C fl k _).trans (congr1 (fun L => ukajb_1_b C fl k L (cp2 ukajbs1 (K .normal))) (ukajb_1_l_p C fl k K m)))
theorem ukajb_1_l_e {R} (C fl k) (K : KF R) : (cp5 ukajbs2 (ce C fl k (.block 0 (.loop cukajb_1_b)) K)) = ukajb_1_l C fl k (cp2 ukajbs1 (K .normal)) k := (congr1 (fun g => (cp5 ukajbs2 (g))) (ce_loop C fl k cukajb_1_b 0 K)).trans (ukajb_1_l_p C fl k K k)
def ukajb_1 {R : Type} (C : Callee) (fl k : Nat) (kr : ukajbt0 R) : ukajbt2 R := ukajb_1_l C fl k (ukajb_1_2 C fl k kr) k
theorem ukajb_1_e {R} (C fl k) (K : KF R) : (cp5 ukajbs2 (ce C fl k cukajb_1 K)) = ukajb_1 C fl k (cp1 ukajbs0 (K .ret)) := ((congr1 (fun g => (cp5 ukajbs2 (g))) (ce_seq C fl k _ _ K)).trans (ukajb_1_l_e C fl k (kseq C fl k cukajb_1_2 K))).trans (congr1 (fun L => ukajb_1_l C fl k L k) ((congr1 (fun g => (cp2 ukajbs1 (g))) (seq_n C fl k cukajb_1_2 K)).trans (ukajb_1_2_e C fl k K)))
def ukajbF {R : Type} (C : Callee) (fl k : Nat) (kx : ukajbt2 R)  (kr : ukajbt0 R) : ukajbt1 R := fun t0 t1 h => asPtr (.pointer t0) fun p62 => ldS h p62.block (p62.off + 1) fun s63 => kx t0 t1 s63 ((s63.l : Nat) : Int) 0 h
def ukajb {R : Type} (C : Callee) (fl k : Nat) (kr : ukajbt0 R) : ukajbt1 R := ukajbF C fl k (ukajb_1 C fl k kr)  kr
theorem ukajb_g {R} (C fl k) (cn : ACode) (K : KF R) : (cp2 ukajbs1 (ce C fl k (gcukajb cn) K)) = ukajbF C fl k (cp5 ukajbs2 (ce C fl k cn K)) (cp1 ukajbs0 (K .ret)) := by kernel_rfl
theorem ukajb_e {R} (C fl k) (K : KF R) : (cp2 ukajbs1 (ce C fl k cukajb K)) = ukajb C fl k (cp1 ukajbs0 (K .ret)) := (ukajb_g C fl k cukajb_1 K).trans (congr1 (fun L0 => ukajbF C fl k L0 (cp1 ukajbs0 (K .ret))) (ukajb_1_e C fl k K))
def infoset_basis_add (C : Callee) (fl k : Nat) (p0 : OA) (p1 : Sl) (h : AH) : Option (Value × AH) := ukajb C fl k (fun y4 q => some (.bool y4, q)) p0 p1 h
theorem infoset_basis_add_run (C fl k) (p0 : OA) (p1 : Sl) (h) : runF C fl k a_infoset_basis_add [.pointer p0, .slice p1.a p1.l p1.c] h = infoset_basis_add C fl k p0 p1 h :=
  (runF_ce C fl k a_infoset_basis_add [.pointer p0, .slice p1.a p1.l p1.c] h cukajb (ukajbs1 p0 p1) rfl (by kernel_rfl)).trans ((cp2_ap ukajbs1 (ce C fl k cukajb (finalK a_infoset_basis_add.results)) p0 p1 h).symm.trans ((congrFun (congrFun (congrFun (ukajb_e C fl k (finalK a_infoset_basis_add.results)) p0) p1) h).trans (show ukajb C fl k (cp1 ukajbs0 ((finalK a_infoset_basis_add.results) .ret)) p0 p1 h = infoset_basis_add C fl k p0 p1 h by kernel_rfl)))
def d_infoset_basis_add (C : Callee) (fl k : Nat) (args : List Value) (h : AH) : Option (Value × AH) := match args with
  | [.pointer n0, .slice n1a n1l n1c] => infoset_basis_add C fl k n0 ⟨n1a, n1l, n1c⟩ h
  | _ => none
theorem d_infoset_basis_add_run {C : Callee} {fl k : Nat} {args : List Value} {h : AH} {r : Value × AH} (e : d_infoset_basis_add C fl k args h = some r) : runF C fl k a_infoset_basis_add args h = some r := by
  unfold d_infoset_basis_add at e
  split at e
  · rename_i n0 n1a n1l n1c; exact (infoset_basis_add_run C fl k n0 ⟨n1a, n1l, n1c⟩ h).trans e
  · cases e
abbrev u4zbjt0 (R : Type) := Sl → AH → Option R
def u4zbjs0 (t4 : Sl) : List Value := un 4 (t4.v :: un 24 [])
def cu4zbj_1_2 : ACode := .seq (.region [oI 28 (.mv (.t 5)), oI 4 (.mv (.t 28))] [5, 28]) (.ret)
abbrev u4zbjt1 (R : Type) := Sl → AH → Option R
def u4zbjs1 (t5 : Sl) : List Value := un 5 (t5.v :: un 23 [])
abbrev u4zbjt2 (R : Type) := Int → Sl → Sl → Int → Int → AH → Option R
def u4zbjs2 (t1 : Int) (t5 t13 : Sl) (t14 t15 : Int) : List Value := un 1 (vi t1 :: un 3 (t5.v :: un 7 (t13.v :: vi t14 :: vi t15 :: un 13 [])))
def cu4zbj_1_b : ACode := .seq (.region [oI 16 (.cmp .lss .i64 (.t 15) (.t 14))] []) (.seq (.cond (.t 16) (.region [] [16]) (.seq (.region [] [1, 13, 14, 15, 16]) (.exit 0))) (.seq (.block 1 (.seq (.region [oI 17 (.mv (.t 15)), oI 18 (.iaddr 1 (.t 13) (.t 15)), oI 19 (.load (.one .slice) (.t 18)), oI 6 (.mv (.t 17)), oI 7 (.mv (.t 19))] [17, 18, 19]) (.region [oI 20 (.mv (.t 5)), oI 21 (.mv (.t 6)), oI 22 (.mv (.t 7)), oI 23 (.mv (.t 1)), oI 24 (.iaddr 1 (.t 22) (.t 23)), oI 25 (.load (.one (.int .i64)) (.t 24)), oI 26 (.iaddr 1 (.t 20) (.t 21)), pI (.store 1 (.t 26) (.t 25))] [6, 7, 20, 21, 22, 23, 24, 25, 26]))) (.region [oI 27 (.bin .add .i64 (.t 15) (ci 1)), oI 15 (.mv (.t 27))] [27])))
def cu4zbj_1 : ACode := .seq (.block 0 (.loop cu4zbj_1_b)) cu4zbj_1_2
def gcu4zbj (cn : ACode) : ACode := .seq (.seq (.region [oI 2 (.box (.t 0)), oI 4 (.mv (.c (.slice none 0 0)))] [0, 4]) (.seq (.region [oI 8 (.faddr 4 (.t 2)), oI 9 (.load (.one .slice) (.t 8)), oI 10 (.len (.t 9)), oI 11 (.mkslice 8 [.int .i64 0] (.t 10) (.t 10)), oI 5 (.mv (.t 11))] [8, 9, 10, 11]) (.region [oI 12 (.faddr 4 (.t 2)), oI 13 (.load (.one .slice) (.t 12)), oI 14 (.len (.t 13)), oI 15 (.mv (ci 0))] [2, 12]))) cn
def cu4zbj : ACode := gcu4zbj cu4zbj_1
abbrev u4zbjt3 (R : Type) := Int → Int → Sl → Int → Sl → Int → AH → Option R
def u4zbjs3 (t0_0 t0_1 : Int) (t0_2 : Sl) (t0_3 : Int) (t0_4 : Sl) (t1 : Int) : List Value := .agg ⟨[.int .i64 t0_0, .int .i64 t0_1, .slice t0_2.a t0_2.l t0_2.c, .int .i64 t0_3, .slice t0_4.a t0_4.l t0_4.c]⟩ :: vi t1 :: un 27 []
def a_infoset_column : AFunc := ⟨29, cu4zbj, [.tmp 4]⟩
theorem ok_infoset_column : okF Tryz.prog 101 a_infoset_column = true := by kernel_rfl
def u4zbj_1_2 {R : Type} (C : Callee) (fl k : Nat) (kr : u4zbjt0 R) : u4zbjt1 R := fun t5 h => kr t5 h
theorem u4zbj_1_2_e {R} (C fl k) (K : KF R) : (cp1 u4zbjs1 (ce C fl k cu4zbj_1_2 K)) = u4zbj_1_2 C fl k (cp1 u4zbjs0 (K .ret)) := by kernel_rfl
def u4zbj_1_b {R : Type} (C : Callee) (fl k : Nat) (kn : u4zbjt2 R) (e0 : u4zbjt1 R) : u4zbjt2 R := fun t1 t5 t13 t14 t15 h => if decide (t15 < t14) = true then idx 1 t13 t15 fun p1 => ldS h p1.block p1.off fun s2 => idx 1 s2 t1 fun p3 => ldI .i64 h p3.block p3.off fun n4 => idx 1 t5 t15 fun p5 => st fl h p5 [.int .i64 n4] fun h6 => kn t1 t5 t13 t14 (w64 (t15 + 1)) h6 else e0 t5 h
theorem u4zbj_1_b_e {R} (C fl k) (K : KF R) : (cp5 u4zbjs2 (ce C fl k cu4zbj_1_b K)) = u4zbj_1_b C fl k (cp5 u4zbjs2 (K .normal)) (cp1 u4zbjs1 (K (.exit 0))) := by kernel_rfl
def u4zbj_1_l {R : Type} (C : Callee) (fl k : Nat) (kn : u4zbjt1 R) : Nat → u4zbjt2 R
  | 0 => fun _ _ _ _ _ _ => none
  | m + 1 => u4zbj_1_b C fl k (u4zbj_1_l C fl k kn m) kn
theorem u4zbj_1_l_p {R} (C fl k) (K : KF R) : ∀ m, (cp5 u4zbjs2 (loopK m (kstep C fl k cu4zbj_1_b 0 K))) = u4zbj_1_l C fl k (cp1 u4zbjs1 (K .normal)) m
  | 0 => by kernel_rfl
  | m + 1 => (congr1 (fun g => (cp5 u4zbjs2 (g))) (loop_ce C fl k cu4zbj_1_b 0 K m)).trans ((u4zbj_1_b_e C fl k _).trans (congr1 (fun L => u4zbj_1_b C fl k L (cp1 u4zbjs1 (K .normal))) (u4zbj_1_l_p C fl k K m)))
theorem u4zbj_1_l_e {R} (C fl k) (K : KF R) : (cp5 u4zbjs2 (ce C fl k (.block 0 (.loop cu4zbj_1_b)) K)) = u4zbj_1_l C fl k (cp1 u4zbjs1 (K .normal)) k := (congr1 (fun g => (cp5 u4zbjs2 (g))) (ce_loop C fl k cu4zbj_1_b 0 K)).trans (u4zbj_1_l_p C fl k K k)
def u4zbj_1 {R : Type} (C : Callee) (fl k : Nat) (kr : u4zbjt0 R) : u4zbjt2 R := u4zbj_1_l C fl k (u4zbj_1_2 C fl k kr) k
theorem u4zbj_1_e {R} (C fl k) (K : KF R) : (cp5 u4zbjs2 (ce C fl k cu4zbj_1 K)) = u4zbj_1 C fl k (cp1 u4zbjs0 (K .ret)) := ((congr1 (fun g => (cp5 u4zbjs2 (g))) (ce_seq C fl k _ _ K)).trans (u4zbj_1_l_e C fl k (kseq C fl k cu4zbj_1_2 K))).trans (congr1 (fun L => u4zbj_1_l C fl k L k) ((congr1 (fun g => (cp1 u4zbjs1 (g))) (seq_n C fl k cu4zbj_1_2 K)).trans (u4zbj_1_2_e C fl k K)))
def u4zbjF {R : Type} (C : Callee) (fl k : Nat) (kx : u4zbjt2 R)  (kr : u4zbjt0 R) : u4zbjt3 R := fun t0_0 t0_1 t0_2 t0_3 t0_4 t1 h => alc h [.int .i64 t0_0, .int .i64 t0_1, .slice t0_2.a t0_2.l t0_2.c, .int .i64 t0_3, .slice t0_4.a t0_4.l t0_4.c] fun b7 h8 => ldS h8 b7 4 fun s9 => mkSl 8 [.int .i64 0] ((s9.l : Nat) : Int) ((s9.l : Nat) : Int) h8 fun s10 h11 => ldS h11 b7 4 fun s12 => kx t1 s10 s12 ((s12.l : Nat) : Int) 0 h11
def u4zbj {R : Type} (C : Callee) (fl k : Nat) (kr : u4zbjt0 R) : u4zbjt3 R := u4zbjF C fl k (u4zbj_1 C fl k kr)  kr
theorem u4zbj_g {R} (C fl k) (cn : ACode) (K : KF R) : (cp6 u4zbjs3 (ce C fl k (gcu4zbj cn) K)) = u4zbjF C fl k (cp5 u4zbjs2 (ce C fl k cn K)) (cp1 u4zbjs0 (K .ret)) := by kernel_rfl
theorem u4zbj_e {R} (C fl k) (K : KF R) : (cp6 u4zbjs3 (ce C fl k cu4zbj K)) = u4zbj C fl k (cp1 u4zbjs0 (K .ret)) := (u4zbj_g C fl k cu4zbj_1 K).trans (congr1 (fun L0 => u4zbjF C fl k L0 (cp1 u4zbjs0 (K .ret))) (u4zbj_1_e C fl k K))
def infoset_column (C : Callee) (fl k : Nat) (p0_0 p0_1 : Int) (p0_2 : Sl) (p0_3 : Int) (p0_4 : Sl) (p1 : Int) (h : AH) : Option (Value × AH) := u4zbj C fl k (fun y4 q => some (.slice y4.a y4.l y4.c, q)) p0_0 p0_1 p0_2 p0_3 p0_4 p1 h
theorem infoset_column_run (C fl k) (p0_0 p0_1 : Int) (p0_2 : Sl) (p0_3 : Int) (p0_4 : Sl) (p1 : Int) (h) : runF C fl k a_infoset_column [.agg ⟨[.int .i64 p0_0, .int .i64 p0_1, .slice p0_2.a p0_2.l p0_2.c, .int .i64 p0_3, .slice p0_4.a p0_4.l p0_4.c]⟩, .int .i64 p1] h = infoset_column C fl k p0_0 p0_1 p0_2 p0_3 p0_4 p1 h :=
  (runF_ce C fl k a_infoset_column [.agg ⟨[.int .i64 p0_0, .int .i64 p0_1, .slice p0_2.a p0_2.l p0_2.c, .int .i64 p0_3, .slice p0_4.a p0_4.l p0_4.c]⟩, .int .i64 p1] h cu4zbj (u4zbjs3 p0_0 p0_1 p0_2 p0_3 p0_4 p1) rfl (by kernel_rfl)).trans ((cp6_ap u4zbjs3 (ce C fl k cu4zbj (finalK a_infoset_column.results)) p0_0 p0_1 p0_2 p0_3 p0_4 p1 h).symm.trans ((congrFun (congrFun (congrFun (congrFun (congrFun (congrFun (congrFun (u4zbj_e C fl k (finalK a_infoset_column.results)) p0_0) p0_1) p0_2) p0_3) p0_4) p1) h).trans (show u4zbj C fl k (cp1 u4zbjs0 ((finalK a_infoset_column.results) .ret)) p0_0 p0_1 p0_2 p0_3 p0_4 p1 h = infoset_column C fl k p0_0 p0_1 p0_2 p0_3 p0_4 p1 h by kernel_rfl)))
def d_infoset_column (C : Callee) (fl k : Nat) (args : List Value) (h : AH) : Option (Value × AH) := match args with
  | [.agg ⟨[.int .i64 n1, .int .i64 n2, .slice n3a n3l n3c, .int .i64 n4, .slice n5a n5l n5c]⟩, .int .i64 n6] => infoset_column C fl k n1 n2 ⟨n3a, n3l, n3c⟩ n4 ⟨n5a, n5l, n5c⟩ n6 h
  | _ => none
theorem d_infoset_column_run {C : Callee} {fl k : Nat} {args : List Value} {h : AH} {r : Value × AH} (e : d_infoset_column C fl k args h = some r) : runF C fl k a_infoset_column args h = some r := by
  unfold d_infoset_column at e
  split at e
  · rename_i n1 n2 n3a n3l n3c n4 n5a n5l n5c n6; exact (infoset_column_run C fl k n1 n2 ⟨n3a, n3l, n3c⟩ n4 ⟨n5a, n5l, n5c⟩ n6 h).trans e
  · cases e
abbrev ujdzlt0 (R : Type) := OA → Int → AH → Option R
def ujdzls0 (t4 : OA) (t5 : Int) : List Value := un 4 (vn t4 :: vi t5 :: un 26 [])
def cujdzl_1_2 : ACode := .seq (.region [oI 31 (.mv (.t 6)), oI 4 (.mv (.t 31)), oI 5 (.mv (ci 0))] [6, 31]) (.ret)
abbrev ujdzlt1 (R : Type) := OA → AH → Option R
def ujdzls1 (t6 : OA) : List Value := un 6 (vn t6 :: un 25 [])
abbrev ujdzlt2 (R : Type) := OA → Sl → Int → Int → AH → Option R
def ujdzls2 (t6 : OA) (t18 : Sl) (t19 t20 : Int) : List Value := un 6 (vn t6 :: un 11 (t18.v :: vi t19 :: vi t20 :: un 11 []))
def cujdzl_1_b : ACode := .seq (.region [oI 21 (.cmp .lss .i64 (.t 20) (.t 19))] []) (.seq (.cond (.t 21) (.region [] [21]) (.seq (.region [] [18, 19, 20, 21]) (.exit 0))) (.seq (.block 1 (.seq (.region [oI 22 (.iaddr 2 (.t 18) (.t 20)), oI 23 (.load (.agg [.int .i64, .slice]) (.t 22)), oI 9 (.alloc [.int .i64 0, .slice none 0 0]), pI (.store 2 (.t 9) (.t 23))] [22, 23]) (.seq (.region [oI 24 (.mv (.t 6)), oI 25 (.load (.agg [.int .i64, .slice]) (.t 9)), oI 26 (.call (.f 141) [.t 24, .t 25] (.one (.one (.int .i64)))), oI 10 (.mv (.t 26))] [9, 24, 25, 26]) (.seq (.region [oI 27 (.mv (.t 10)), oI 28 (.cmp .neq .i64 (.t 27) (ci 0))] [27]) (.cond (.t 28) (.seq (.region [oI 29 (.mv (.t 10)), oI 4 (.mv (.c (.pointer none))), oI 5 (.mv (.t 29))] [6, 10, 18, 19, 20, 28, 29]) (.ret)) (.region [] [10, 28])))))) (.region [oI 30 (.bin .add .i64 (.t 20) (ci 1)), oI 20 (.mv (.t 30))] [30])))
def cujdzl_1 : ACode := .seq (.block 0 (.loop cujdzl_1_b)) cujdzl_1_2
def gcujdzl (cn : ACode) : ACode := .seq (.seq (.region [oI 2 (.box (.t 0)), oI 4 (.mv (.c (.pointer none))), oI 5 (.mv (ci 0))] [0, 4, 5]) (.seq (.region [oI 12 (.load (.agg [.int .i64, .int .i64, .slice]) (.t 2)), oI 13 (.call (.f 75) [.t 12] (.tup [.one .nptr, .one (.int .i64)])), oI 11 (.mv (.t 13)), oI 14 (.extr (.t 11) 0), oI 15 (.extr (.t 11) 1), oI 6 (.mv (.t 14)), oI 7 (.mv (.t 15))] [2, 11, 12, 13, 14, 15]) (.seq (.region [oI 16 (.mv (.t 7)), oI 17 (.cmp .neq .i64 (.t 16) (ci 0))] [7, 16]) (.seq (.cond (.t 17) (.seq (.region [oI 4 (.mv (.c (.pointer none))), oI 5 (.mv (ci 1))] [1, 6, 17]) (.ret)) (.region [] [17])) (.region [oI 18 (.mv (.t 1)), oI 19 (.len (.t 18)), oI 20 (.mv (ci 0))] [1]))))) cn
def cujdzl : ACode := gcujdzl cujdzl_1
abbrev ujdzlt3 (R : Type) := Int → Int → Sl → Sl → AH → Option R
def ujdzls3 (t0_0 t0_1 : Int) (t0_2 t1 : Sl) : List Value := .agg ⟨[.int .i64 t0_0, .int .i64 t0_1, .slice t0_2.a t0_2.l t0_2.c]⟩ :: t1.v :: un 30 []
def a_matrix_open : AFunc := ⟨32, cujdzl, [.tmp 4, .tmp 5]⟩
theorem ok_matrix_open : okF Tryz.prog 102 a_matrix_open = true := by kernel_rfl
def ujdzl_1_2 {R : Type} (C : Callee) (fl k : Nat) (kr : ujdzlt0 R) : ujdzlt1 R := fun t6 h => kr t6 0 h
theorem ujdzl_1_2_e {R} (C fl k) (K : KF R) : (cp1 ujdzls1 (ce C fl k cujdzl_1_2 K)) = ujdzl_1_2 C fl k (cp2 ujdzls0 (K .ret)) := by kernel_rfl
def ujdzl_1_b {R : Type} (C : Callee) (fl k : Nat) (kn : ujdzlt2 R) (e0 : ujdzlt1 R) (kr : ujdzlt0 R) : ujdzlt2 R := fun t6 t18 t19 t20 h => if decide (t20 < t19) = true then idx 2 t18 t20 fun p1 => ldI .i64 h p1.block p1.off fun n2 => ldS h p1.block (p1.off + 1) fun s3 => alc h [.int .i64 0, .slice none 0 0] fun b4 h5 => st fl h5 ⟨b4, 0, none⟩ [.int .i64 n2, .slice s3.a s3.l s3.c] fun h6 => ldI .i64 h6 b4 0 fun n7 => ldS h6 b4 1 fun s8 => callF C fl fn.matrix_check [.pointer t6, .agg ⟨[.int .i64 n7, .slice s8.a s8.l s8.c]⟩] h6 fun v9 h10 => asInt .i64 v9 fun n11 => if (n11 != 0) = true then kr none n11 h10 else kn t6 t18 t19 (w64 (t20 + 1)) h10 else e0 t6 h
theorem ujdzl_1_b_e {R} (C fl k) (K : KF R) : (cp4 ujdzls2 (ce C fl k cujdzl_1_b K)) = ujdzl_1_b C fl k (cp4 ujdzls2 (K .normal)) (cp1 ujdzls1 (K (.exit 0))) (cp2 ujdzls0 (K .ret)) := by kernel_rfl
def ujdzl_1_l {R : Type} (C : Callee) (fl k : Nat) (kn : ujdzlt1 R) (kr : ujdzlt0 R) : Nat → ujdzlt2 R
  | 0 => fun _ _ _ _ _ => none
  | m + 1 => ujdzl_1_b C fl k (ujdzl_1_l C fl k kn kr m) kn kr
theorem ujdzl_1_l_p {R} (C fl k) (K : KF R) : ∀ m, (cp4 ujdzls2 (loopK m (kstep C fl k cujdzl_1_b 0 K))) = ujdzl_1_l C fl k (cp1 ujdzls1 (K .normal)) (cp2 ujdzls0 (K .ret)) m
  | 0 => by kernel_rfl
  | m + 1 => (congr1 (fun g => (cp4 ujdzls2 (g))) (loop_ce C fl k cujdzl_1_b 0 K m)).trans ((ujdzl_1_b_e C fl k _).trans (congr1 (fun L => ujdzl_1_b C fl k L (cp1 ujdzls1 (K .normal)) (cp2 ujdzls0 (K .ret))) (ujdzl_1_l_p C fl k K m)))
theorem ujdzl_1_l_e {R} (C fl k) (K : KF R) : (cp4 ujdzls2 (ce C fl k (.block 0 (.loop cujdzl_1_b)) K)) = ujdzl_1_l C fl k (cp1 ujdzls1 (K .normal)) (cp2 ujdzls0 (K .ret)) k := (congr1 (fun g => (cp4 ujdzls2 (g))) (ce_loop C fl k cujdzl_1_b 0 K)).trans (ujdzl_1_l_p C fl k K k)
def ujdzl_1 {R : Type} (C : Callee) (fl k : Nat) (kr : ujdzlt0 R) : ujdzlt2 R := ujdzl_1_l C fl k (ujdzl_1_2 C fl k kr) kr k
theorem ujdzl_1_e {R} (C fl k) (K : KF R) : (cp4 ujdzls2 (ce C fl k cujdzl_1 K)) = ujdzl_1 C fl k (cp2 ujdzls0 (K .ret)) := ((congr1 (fun g => (cp4 ujdzls2 (g))) (ce_seq C fl k _ _ K)).trans (ujdzl_1_l_e C fl k (kseq C fl k cujdzl_1_2 K))).trans (congr1 (fun L => ujdzl_1_l C fl k L (cp2 ujdzls0 (K .ret)) k) ((congr1 (fun g => (cp1 ujdzls1 (g))) (seq_n C fl k cujdzl_1_2 K)).trans (ujdzl_1_2_e C fl k K)))
def ujdzlF {R : Type} (C : Callee) (fl k : Nat) (kx : ujdzlt2 R)  (kr : ujdzlt0 R) : ujdzlt3 R := fun t0_0 t0_1 t0_2 t1 h => alc h [.int .i64 t0_0, .int .i64 t0_1, .slice t0_2.a t0_2.l t0_2.c] fun b12 h13 => ldI .i64 h13 b12 0 fun n14 => ldI .i64 h13 b12 1 fun n15 => ldS h13 b12 2 fun s16 => callF C fl fn.field_New [.agg ⟨[.int .i64 n14, .int .i64 n15, .slice s16.a s16.l s16.c]⟩] h13 fun v17 h18 => asTup v17 fun l19 => ucons l19 fun v20 l21 => asNptr v20 fun p22 => ucons l21 fun v23 l24 => asInt .i64 v23 fun n25 => unil l24 (if (n25 != 0) = true then kr none 1 h18 else kx p22 t1 ((t1.l : Nat) : Int) 0 h18)
def ujdzl {R : Type} (C : Callee) (fl k : Nat) (kr : ujdzlt0 R) : ujdzlt3 R := ujdzlF C fl k (ujdzl_1 C fl k kr)  kr
theorem ujdzl_g {R} (C fl k) (cn : ACode) (K : KF R) : (cp4 ujdzls3 (ce C fl k (gcujdzl cn) K)) = ujdzlF C fl k (cp4 ujdzls2 (ce C fl k cn K)) (cp2 ujdzls0 (K .ret)) := by kernel_rfl
theorem ujdzl_e {R} (C fl k) (K : KF R) : (cp4 ujdzls3 (ce C fl k cujdzl K)) = ujdzl C fl k (cp2 ujdzls0 (K .ret)) := (ujdzl_g C fl k cujdzl_1 K).trans (congr1 (fun L0 => ujdzlF C fl k L0 (cp2 ujdzls0 (K .ret))) (ujdzl_1_e C fl k K))
def matrix_open (C : Callee) (fl k : Nat) (p0_0 p0_1 : Int) (p0_2 p1 : Sl) (h : AH) : Option (Value × AH) := ujdzl C fl k (fun y4 y5 q => some (.tuple ⟨[.pointer y4, .int .i64 y5]⟩, q)) p0_0 p0_1 p0_2 p1 h
theorem matrix_open_run (C fl k) (p0_0 p0_1 : Int) (p0_2 p1 : Sl) (h) : runF C fl k a_matrix_open [.agg ⟨[.int .i64 p0_0, .int .i64 p0_1, .slice p0_2.a p0_2.l p0_2.c]⟩, .slice p1.a p1.l p1.c] h = matrix_open C fl k p0_0 p0_1 p0_2 p1 h :=
  (runF_ce C fl k a_matrix_open [.agg ⟨[.int .i64 p0_0, .int .i64 p0_1, .slice p0_2.a p0_2.l p0_2.c]⟩, .slice p1.a p1.l p1.c] h cujdzl (ujdzls3 p0_0 p0_1 p0_2 p1) rfl (by kernel_rfl)).trans ((cp4_ap ujdzls3 (ce C fl k cujdzl (finalK a_matrix_open.results)) p0_0 p0_1 p0_2 p1 h).symm.trans ((congrFun (congrFun (congrFun (congrFun (congrFun (ujdzl_e C fl k (finalK a_matrix_open.results)) p0_0) p0_1) p0_2) p1) h).trans (show ujdzl C fl k (cp2 ujdzls0 ((finalK a_matrix_open.results) .ret)) p0_0 p0_1 p0_2 p1 h = matrix_open C fl k p0_0 p0_1 p0_2 p1 h by kernel_rfl)))
def d_matrix_open (C : Callee) (fl k : Nat) (args : List Value) (h : AH) : Option (Value × AH) := match args with
  | [.agg ⟨[.int .i64 n1, .int .i64 n2, .slice n3a n3l n3c]⟩, .slice n4a n4l n4c] => matrix_open C fl k n1 n2 ⟨n3a, n3l, n3c⟩ ⟨n4a, n4l, n4c⟩ h
  | _ => none
theorem d_matrix_open_run {C : Callee} {fl k : Nat} {args : List Value} {h : AH} {r : Value × AH} (e : d_matrix_open C fl k args h = some r) : runF C fl k a_matrix_open args h = some r := by
  unfold d_matrix_open at e
  split at e
  · rename_i n1 n2 n3a n3l n3c n4a n4l n4c; exact (matrix_open_run C fl k n1 n2 ⟨n3a, n3l, n3c⟩ ⟨n4a, n4l, n4c⟩ h).trans e
  · cases e
abbrev uwwrct0 (R : Type) := Sl → Sl → AH → Option R
def uwwrcs0 (t6 t7 : Sl) : List Value := un 6 (t6.v :: t7.v :: un 19 [])
def cuwwrc : ACode := .seq (.region [oI 6 (.mv (.c (.slice none 0 0))), oI 7 (.mv (.c (.slice none 0 0)))] [6, 7]) (.seq (.region [oI 11 (.mv (.t 1)), oI 12 (.call (.f 142) [.t 11] (.one (.one .slice))), oI 8 (.mv (.t 12))] [1, 11, 12]) (.seq (.region [oI 14 (.mv (.t 0)), oI 15 (.mv (.t 8)), oI 16 (.mv (.t 2)), oI 17 (.call (.f 143) [.t 14, .t 15, .t 16, .c (.slice none 0 0)] (.tup [.one .slice, .one (.int .i64)])), oI 13 (.mv (.t 17)), oI 18 (.extr (.t 13) 0), oI 19 (.extr (.t 13) 1), oI 9 (.mv (.t 18)), oI 10 (.mv (.t 19))] [0, 2, 10, 13, 14, 15, 16, 17, 18, 19]) (.seq (.region [oI 20 (.mv (.t 8)), oI 21 (.mv (.t 9)), oI 22 (.len (.t 21)), oI 23 (.mv (.t 9)), oI 24 (.len (.t 23)), oI 25 (.slice 1 (.t 20) none (some (.t 22)) (some (.t 24))), oI 26 (.mv (.t 9)), oI 6 (.mv (.t 25)), oI 7 (.mv (.t 26))] [8, 9, 20, 21, 22, 23, 24, 25, 26]) (.ret))))
abbrev uwwrct1 (R : Type) := OA → Sl → Int → AH → Option R
def uwwrcs1 (t0 : OA) (t1 : Sl) (t2 : Int) : List Value := vn t0 :: t1.v :: vi t2 :: un 24 []
def a_matrix_canon : AFunc := ⟨27, cuwwrc, [.tmp 6, .tmp 7]⟩
theorem ok_matrix_canon : okF Tryz.prog 103 a_matrix_canon = true := by kernel_rfl
def uwwrc {R : Type} (C : Callee) (fl k : Nat) (kr : uwwrct0 R) : uwwrct1 R := fun t0 t1 t2 h => callF C fl fn.matrix_clone [.slice t1.a t1.l t1.c] h fun v1 h2 => asSl v1 fun s3 => callF C fl fn.matrix_eliminate [.pointer t0, .slice s3.a s3.l s3.c, .int .i64 t2, .slice none 0 0] h2 fun v4 h5 => asTup v4 fun l6 => ucons l6 fun v7 l8 => asSl v7 fun s9 => ucons l8 fun v10 l11 => asInt .i64 v10 fun n12 => unil l11 (sub 1 s3 none (some ((s9.l : Nat) : Int)) (some ((s9.l : Nat) : Int)) fun s13 => kr s13 s9 h5)
theorem uwwrc_e {R} (C fl k) (K : KF R) : (cp3 uwwrcs1 (ce C fl k cuwwrc K)) = uwwrc C fl k (cp2 uwwrcs0 (K .ret)) := by kernel_rfl
def matrix_canon (C : Callee) (fl k : Nat) (p0 : OA) (p1 : Sl) (p2 : Int) (h : AH) : Option (Value × AH) := uwwrc C fl k (fun y6 y7 q => some (.tuple ⟨[.slice y6.a y6.l y6.c, .slice y7.a y7.l y7.c]⟩, q)) p0 p1 p2 h
theorem matrix_canon_run (C fl k) (p0 : OA) (p1 : Sl) (p2 : Int) (h) : runF C fl k a_matrix_canon [.pointer p0, .slice p1.a p1.l p1.c, .int .i64 p2] h = matrix_canon C fl k p0 p1 p2 h :=
  (runF_ce C fl k a_matrix_canon [.pointer p0, .slice p1.a p1.l p1.c, .int .i64 p2] h cuwwrc (uwwrcs1 p0 p1 p2) rfl (by kernel_rfl)).trans ((cp3_ap uwwrcs1 (ce C fl k cuwwrc (finalK a_matrix_canon.results)) p0 p1 p2 h).symm.trans ((congrFun (congrFun (congrFun (congrFun (uwwrc_e C fl k (finalK a_matrix_canon.results)) p0) p1) p2) h).trans (show uwwrc C fl k (cp2 uwwrcs0 ((finalK a_matrix_canon.results) .ret)) p0 p1 p2 h = matrix_canon C fl k p0 p1 p2 h by kernel_rfl)))
def d_matrix_canon (C : Callee) (fl k : Nat) (args : List Value) (h : AH) : Option (Value × AH) := match args with
  | [.pointer n0, .slice n1a n1l n1c, .int .i64 n2] => matrix_canon C fl k n0 ⟨n1a, n1l, n1c⟩ n2 h
  | _ => none
theorem d_matrix_canon_run {C : Callee} {fl k : Nat} {args : List Value} {h : AH} {r : Value × AH} (e : d_matrix_canon C fl k args h = some r) : runF C fl k a_matrix_canon args h = some r := by
  unfold d_matrix_canon at e
  split at e
  · rename_i n0 n1a n1l n1c n2; exact (matrix_canon_run C fl k n0 ⟨n1a, n1l, n1c⟩ n2 h).trans e
  · cases e
abbrev uaapnt0 (R : Type) := Int → AH → Option R
def uaapns0 (t4 : Int) : List Value := un 4 (vi t4 :: un 45 [])
def cuaapn_1_2 : ACode := .seq (.region [oI 49 (.mv (.t 5)), oI 4 (.mv (.t 49))] [5, 49]) (.ret)
abbrev uaapnt1 (R : Type) := Int → AH → Option R
def uaapns1 (t5 : Int) : List Value := un 5 (vi t5 :: un 44 [])
abbrev uaapnt2 (R : Type) := OA → Int → Int → Int → AH → Option R
def uaapns2 (t0 : OA) (t1 t5 t6 : Int) : List Value := vn t0 :: vi t1 :: un 3 (vi t5 :: vi t6 :: un 43 [])
def cuaapn_1_b : ACode := .seq (.region [oI 10 (.mv (.t 1)), oI 11 (.cmp .gtr .i64 (.t 10) (ci 0))] [10]) (.seq (.cond (.t 11) (.region [] [11]) (.seq (.region [] [0, 1, 6, 11]) (.exit 0))) (.block 1 (.seq (.region [oI 12 (.mv (.t 5)), oI 13 (.mv (.t 0)), oI 14 (.nilc (.t 13)), oI 15 (.faddr 0 (.t 14)), oI 16 (.faddr 0 (.t 15)), oJ 17 (.load (.one (.int .i64)) (.t 16)), oI 18 (.mv (.t 1)), oI 19 (.mv (.t 0)), oI 20 (.nilc (.t 19)), oI 21 (.faddr 0 (.t 20)), oI 22 (.faddr 0 (.t 21)), oJ 23 (.load (.one (.int .i64)) (.t 22)), oI 24 (.bin .rem .i64 (.t 18) (.t 23)), oI 25 (.bin .sub .i64 (.t 17) (.t 24)), oI 26 (.mv (.t 0)), oI 27 (.nilc (.t 26)), oI 28 (.faddr 0 (.t 27)), oI 29 (.faddr 0 (.t 28)), oJ 30 (.load (.one (.int .i64)) (.t 29)), oI 31 (.bin .rem .i64 (.t 25) (.t 30)), oI 32 (.mv (.t 6)), oI 33 (.bin .mul .i64 (.t 31) (.t 32)), oI 34 (.bin .add .i64 (.t 12) (.t 33)), oI 5 (.mv (.t 34))] [12, 13, 14, 15, 16, 17, 18, 19, 20, 21, 22, 23, 24, 25, 26, 27, 28, 29, 30, 31, 32, 33, 34]) (.seq (.region [oI 35 (.mv (.t 6)), oI 36 (.mv (.t 0)), oI 37 (.nilc (.t 36)), oI 38 (.faddr 0 (.t 37)), oI 39 (.faddr 0 (.t 38)), oI 40 (.load (.one (.int .i64)) (.t 39)), oI 41 (.bin .mul .i64 (.t 35) (.t 40)), oI 6 (.mv (.t 41))] [35, 36, 37, 38, 39, 40, 41]) (.region [oI 42 (.mv (.t 1)), oI 43 (.mv (.t 0)), oI 44 (.nilc (.t 43)), oI 45 (.faddr 0 (.t 44)), oI 46 (.faddr 0 (.t 45)), oI 47 (.load (.one (.int .i64)) (.t 46)), oI 48 (.bin .quo .i64 (.t 42) (.t 47)), oI 1 (.mv (.t 48))] [42, 43, 44, 45, 46, 47, 48])))))
def cuaapn_1 : ACode := .seq (.block 0 (.loop cuaapn_1_b)) cuaapn_1_2
def gcuaapn (cn : ACode) : ACode := .seq (.seq (.region [oI 4 (.mv (ci 0))] [4]) (.seq (.region [oI 7 (.mv (.t 0)), oI 8 (.mv (.t 1)), oI 9 (.call (.f 144) [.t 7, .t 8] (.one (.one (.int .i64)))), oI 1 (.mv (.t 9))] [7, 8, 9]) (.region [oI 5 (.mv (ci 0)), oI 6 (.mv (ci 1))] []))) cn
def cuaapn : ACode := gcuaapn cuaapn_1
abbrev uaapnt3 (R : Type) := OA → Int → AH → Option R
def uaapns3 (t0 : OA) (t1 : Int) : List Value := vn t0 :: vi t1 :: un 48 []
def a_field_GF_Neg : AFunc := ⟨50, cuaapn, [.tmp 4]⟩
theorem ok_field_GF_Neg : okF Tryz.prog 104 a_field_GF_Neg = true := by kernel_rfl
def uaapn_1_2 {R : Type} (C : Callee) (fl k : Nat) (kr : uaapnt0 R) : uaapnt1 R := fun t5 h => kr t5 h
theorem uaapn_1_2_e {R} (C fl k) (K : KF R) : (cp1 uaapns1 (ce C fl k cuaapn_1_2 K)) = uaapn_1_2 C fl k (cp1 uaapns0 (K .ret)) := by kernel_rfl
def uaapn_1_b {R : Type} (C : Callee) (fl k : Nat) (kn : uaapnt2 R) (e0 : uaapnt1 R) : uaapnt2 R := fun t0 t1 t5 t6 h => if decide (t1 > 0) = true then asPtr (.pointer t0) fun p1 => ldI .i64 h p1.block p1.off fun n2 => asPtr (.pointer t0) fun p3 => ldI .i64 h p3.block p3.off fun n4 => binQ .rem .i64 t1 n4 fun n5 => asPtr (.pointer t0) fun p6 => ldI .i64 h p6.block p6.off fun n7 => binQ .rem .i64 (w64 (n2 - n5)) n7 fun n8 => asPtr (.pointer t0) fun p9 => ldI .i64 h p9.block p9.off fun n10 => asPtr (.pointer t0) fun p11 => ldI .i64 h p11.block p11.off fun n12 => binQ .quo .i64 t1 n12 fun n13 => kn t0 n13 (w64 (t5 + (w64 (n8 * t6)))) (w64 (t6 * n10)) h else e0 t5 h
theorem uaapn_1_b_e {R} (C fl k) (K : KF R) : (cp4 uaapns2 (ce C fl k cuaapn_1_b K)) = uaapn_1_b C fl k (cp4 uaapns2 (K .normal)) (cp1 uaapns1 (K (.exit 0))) := by kernel_rfl
def uaapn_1_l {R : Type} (C : Callee) (fl k : Nat) (kn : uaapnt1 R) : Nat → uaapnt2 R
  | 0 => fun _ _ _ _ _ => none
  | m + 1 => uaapn_1_b C fl k (uaapn_1_l C fl k kn m) kn
theorem uaapn_1_l_p {R} (C fl k) (K : KF R) : ∀ m, (cp4 uaapns2 (loopK m (kstep C fl k cuaapn_1_b 0 K))) = uaapn_1_l C fl k (cp1 uaapns1 (K .normal)) m
  | 0 => by kernel_rfl
  | m + 1 => (congr1 (fun g => (cp4 uaapns2 (g))) (loop_ce C fl k cuaapn_1_b 0 K m)).trans ((uaapn_1_b_e C fl k _).trans (congr1 (fun L => uaapn_1_b C fl k L (cp1 uaapns1 (K .normal))) (uaapn_1_l_p C fl k K m)))
theorem uaapn_1_l_e {R} (C fl k) (K : KF R) : (cp4 uaapns2 (ce C fl k (.block 0 (.loop cuaapn_1_b)) K)) = uaapn_1_l C fl k (cp1 uaapns1 (K .normal)) k := (congr1 (fun g => (cp4 uaapns2 (g))) (ce_loop C fl k cuaapn_1_b 0 K)).trans (uaapn_1_l_p C fl k K k)
def uaapn_1 {R : Type} (C : Callee) (fl k : Nat) (kr : uaapnt0 R) : uaapnt2 R := uaapn_1_l C fl k (uaapn_1_2 C fl k kr) k
theorem uaapn_1_e {R} (C fl k) (K : KF R) : (cp4 uaapns2 (ce C fl k cuaapn_1 K)) = uaapn_1 C fl k (cp1 uaapns0 (K .ret)) := ((congr1 (fun g => (cp4 uaapns2 (g))) (ce_seq C fl k _ _ K)).trans (uaapn_1_l_e C fl k (kseq C fl k cuaapn_1_2 K))).trans (congr1 (fun L => uaapn_1_l C fl k L k) ((congr1 (fun g => (cp1 uaapns1 (g))) (seq_n C fl k cuaapn_1_2 K)).trans (uaapn_1_2_e C fl k K)))
def uaapnF {R : Type} (C : Callee) (fl k : Nat) (kx : uaapnt2 R)  (kr : uaapnt0 R) : uaapnt3 R := fun t0 t1 h => callF C fl fn.field_GF_in [.pointer t0, .int .i64 t1] h fun v14 h15 => asInt .i64 v14 fun n16 => kx t0 n16 0 1 h15
def uaapn {R : Type} (C : Callee) (fl k : Nat) (kr : uaapnt0 R) : uaapnt3 R := uaapnF C fl k (uaapn_1 C fl k kr)  kr
theorem uaapn_g {R} (C fl k) (cn : ACode) (K : KF R) : (cp2 uaapns3 (ce C fl k (gcuaapn cn) K)) = uaapnF C fl k (cp4 uaapns2 (ce C fl k cn K)) (cp1 uaapns0 (K .ret)) := by kernel_rfl
theorem uaapn_e {R} (C fl k) (K : KF R) : (cp2 uaapns3 (ce C fl k cuaapn K)) = uaapn C fl k (cp1 uaapns0 (K .ret)) := (uaapn_g C fl k cuaapn_1 K).trans (congr1 (fun L0 => uaapnF C fl k L0 (cp1 uaapns0 (K .ret))) (uaapn_1_e C fl k K))
def field_GF_Neg (C : Callee) (fl k : Nat) (p0 : OA) (p1 : Int) (h : AH) : Option (Value × AH) := uaapn C fl k (fun y4 q => some (.int .i64 y4, q)) p0 p1 h
theorem field_GF_Neg_run (C fl k) (p0 : OA) (p1 : Int) (h) : runF C fl k a_field_GF_Neg [.pointer p0, .int .i64 p1] h = field_GF_Neg C fl k p0 p1 h :=
  (runF_ce C fl k a_field_GF_Neg [.pointer p0, .int .i64 p1] h cuaapn (uaapns3 p0 p1) rfl (by kernel_rfl)).trans ((cp2_ap uaapns3 (ce C fl k cuaapn (finalK a_field_GF_Neg.results)) p0 p1 h).symm.trans ((congrFun (congrFun (congrFun (uaapn_e C fl k (finalK a_field_GF_Neg.results)) p0) p1) h).trans (show uaapn C fl k (cp1 uaapns0 ((finalK a_field_GF_Neg.results) .ret)) p0 p1 h = field_GF_Neg C fl k p0 p1 h by kernel_rfl)))
def d_field_GF_Neg (C : Callee) (fl k : Nat) (args : List Value) (h : AH) : Option (Value × AH) := match args with
  | [.pointer n0, .int .i64 n1] => field_GF_Neg C fl k n0 n1 h
  | _ => none
theorem d_field_GF_Neg_run {C : Callee} {fl k : Nat} {args : List Value} {h : AH} {r : Value × AH} (e : d_field_GF_Neg C fl k args h = some r) : runF C fl k a_field_GF_Neg args h = some r := by
  unfold d_field_GF_Neg at e
  split at e
  · rename_i n0 n1; exact (field_GF_Neg_run C fl k n0 n1 h).trans e
  · cases e
abbrev ueuh7t0 (R : Type) := Addr → AH → Option R
def ueuh7s0 (t2 : Addr) : List Value := un 2 (vp t2 :: un 5 [])
def cueuh7 : ACode := .seq (.region [oI 1 (.box (.t 0)), oI 2 (.alloc [.int .i64 0, .int .i64 0, .slice none 0 0])] [0]) (.seq (.region [oI 3 (.faddr 2 (.t 1)), oI 4 (.load (.one .slice) (.t 3)), oI 5 (.call (.f 118) [.t 4] (.one (.one .slice))), oI 6 (.faddr 2 (.t 1)), pI (.store 1 (.t 6) (.t 5))] [3, 4, 5, 6]) (.seq (.region [oI 7 (.load (.agg [.int .i64, .int .i64, .slice]) (.t 1)), pI (.store 3 (.t 2) (.t 7))] [1, 7]) (.ret)))
abbrev ueuh7t1 (R : Type) := Int → Int → Sl → AH → Option R
def ueuh7s1 (t0_0 t0_1 : Int) (t0_2 : Sl) : List Value := .agg ⟨[.int .i64 t0_0, .int .i64 t0_1, .slice t0_2.a t0_2.l t0_2.c]⟩ :: un 7 []
def a_code_own : AFunc := ⟨8, cueuh7, [.cell 2 (.agg [.int .i64, .int .i64, .slice])]⟩
theorem ok_code_own : okF Tryz.prog 105 a_code_own = true := by kernel_rfl
def ueuh7 {R : Type} (C : Callee) (fl k : Nat) (kr : ueuh7t0 R) : ueuh7t1 R := fun t0_0 t0_1 t0_2 h => alc h [.int .i64 t0_0, .int .i64 t0_1, .slice t0_2.a t0_2.l t0_2.c] fun b1 h2 => alc h2 [.int .i64 0, .int .i64 0, .slice none 0 0] fun b3 h4 => ldS h4 b1 2 fun s5 => callF C fl fn.slices_Clone [.slice s5.a s5.l s5.c] h4 fun v6 h7 => asSl v6 fun s8 => st fl h7 ⟨b1, 2, none⟩ [.slice s8.a s8.l s8.c] fun h9 => ldI .i64 h9 b1 0 fun n10 => ldI .i64 h9 b1 1 fun n11 => ldS h9 b1 2 fun s12 => st fl h9 ⟨b3, 0, none⟩ [.int .i64 n10, .int .i64 n11, .slice s12.a s12.l s12.c] fun h13 => kr ⟨b3, 0, none⟩ h13
theorem ueuh7_e {R} (C fl k) (K : KF R) : (cp3 ueuh7s1 (ce C fl k cueuh7 K)) = ueuh7 C fl k (cp1 ueuh7s0 (K .ret)) := by kernel_rfl
def code_own (C : Callee) (fl k : Nat) (p0_0 p0_1 : Int) (p0_2 : Sl) (h : AH) : Option (Value × AH) := ueuh7 C fl k (fun y2 q => ldI .i64 q y2.block y2.off fun n14 => ldI .i64 q y2.block (y2.off + 1) fun n15 => ldS q y2.block (y2.off + 1 + 1) fun s16 => some (.agg ⟨[.int .i64 n14, .int .i64 n15, .slice s16.a s16.l s16.c]⟩, q)) p0_0 p0_1 p0_2 h
theorem code_own_run (C fl k) (p0_0 p0_1 : Int) (p0_2 : Sl) (h) : runF C fl k a_code_own [.agg ⟨[.int .i64 p0_0, .int .i64 p0_1, .slice p0_2.a p0_2.l p0_2.c]⟩] h = code_own C fl k p0_0 p0_1 p0_2 h :=
  (runF_ce C fl k a_code_own [.agg ⟨[.int .i64 p0_0, .int .i64 p0_1, .slice p0_2.a p0_2.l p0_2.c]⟩] h cueuh7 (ueuh7s1 p0_0 p0_1 p0_2) rfl (by kernel_rfl)).trans ((cp3_ap ueuh7s1 (ce C fl k cueuh7 (finalK a_code_own.results)) p0_0 p0_1 p0_2 h).symm.trans ((congrFun (congrFun (congrFun (congrFun (ueuh7_e C fl k (finalK a_code_own.results)) p0_0) p0_1) p0_2) h).trans (show ueuh7 C fl k (cp1 ueuh7s0 ((finalK a_code_own.results) .ret)) p0_0 p0_1 p0_2 h = code_own C fl k p0_0 p0_1 p0_2 h by kernel_rfl)))
def d_code_own (C : Callee) (fl k : Nat) (args : List Value) (h : AH) : Option (Value × AH) := match args with
  | [.agg ⟨[.int .i64 n1, .int .i64 n2, .slice n3a n3l n3c]⟩] => code_own C fl k n1 n2 ⟨n3a, n3l, n3c⟩ h
  | _ => none
theorem d_code_own_run {C : Callee} {fl k : Nat} {args : List Value} {h : AH} {r : Value × AH} (e : d_code_own C fl k args h = some r) : runF C fl k a_code_own args h = some r := by
  unfold d_code_own at e
  split at e
  · rename_i n1 n2 n3a n3l n3c; exact (code_own_run C fl k n1 n2 ⟨n3a, n3l, n3c⟩ h).trans e
  · cases e
abbrev ubl09t0 (R : Type) := Bool → AH → Option R
def ubl09s0 (t4 : Bool) : List Value := un 4 (.bool t4 :: un 10 [])
def cubl09 : ACode := .seq (.region [oI 4 (.mv (.c (.bool false)))] [4]) (.seq (.region [oI 5 (.mv (.t 1)), oI 6 (.cmp .geq .i64 (.t 5) (ci 0)), oI 7 (.mv (.t 6)), .grp 7 true [qI 8 (.mv (.t 1)), qI 9 (.mv (.t 0)), qI 10 (.nilc (.t 9)), qI 11 (.faddr 3 (.t 10)), qI 12 (.load (.one (.int .i64)) (.t 11)), qI 13 (.cmp .lss .i64 (.t 8) (.t 12))], oI 14 (.pick (.t 7) (.t 13) (.c (.bool false))), oI 4 (.mv (.t 14))] [0, 1, 5, 6, 7, 8, 9, 10, 11, 12, 13, 14]) (.ret))
abbrev ubl09t1 (R : Type) := OA → Int → AH → Option R
def ubl09s1 (t0 : OA) (t1 : Int) : List Value := vn t0 :: vi t1 :: un 13 []
def a_field_GF_Is : AFunc := ⟨15, cubl09, [.tmp 4]⟩
theorem ok_field_GF_Is : okF Tryz.prog 109 a_field_GF_Is = true := by kernel_rfl
def ubl09 {R : Type} (C : Callee) (fl k : Nat) (kr : ubl09t0 R) : ubl09t1 R := fun t0 t1 h => if decide (t1 ≥ 0) = true then asPtr (.pointer t0) fun p1 => ldI .i64 h p1.block (p1.off + 3) fun n2 => kr (decide (t1 < n2)) h else kr false h
theorem ubl09_e {R} (C fl k) (K : KF R) : (cp2 ubl09s1 (ce C fl k cubl09 K)) = ubl09 C fl k (cp1 ubl09s0 (K .ret)) := by kernel_rfl
def field_GF_Is (C : Callee) (fl k : Nat) (p0 : OA) (p1 : Int) (h : AH) : Option (Value × AH) := ubl09 C fl k (fun y4 q => some (.bool y4, q)) p0 p1 h
theorem field_GF_Is_run (C fl k) (p0 : OA) (p1 : Int) (h) : runF C fl k a_field_GF_Is [.pointer p0, .int .i64 p1] h = field_GF_Is C fl k p0 p1 h :=
  (runF_ce C fl k a_field_GF_Is [.pointer p0, .int .i64 p1] h cubl09 (ubl09s1 p0 p1) rfl (by kernel_rfl)).trans ((cp2_ap ubl09s1 (ce C fl k cubl09 (finalK a_field_GF_Is.results)) p0 p1 h).symm.trans ((congrFun (congrFun (congrFun (ubl09_e C fl k (finalK a_field_GF_Is.results)) p0) p1) h).trans (show ubl09 C fl k (cp1 ubl09s0 ((finalK a_field_GF_Is.results) .ret)) p0 p1 h = field_GF_Is C fl k p0 p1 h by kernel_rfl)))
def d_field_GF_Is (C : Callee) (fl k : Nat) (args : List Value) (h : AH) : Option (Value × AH) := match args with
  | [.pointer n0, .int .i64 n1] => field_GF_Is C fl k n0 n1 h
  | _ => none
theorem d_field_GF_Is_run {C : Callee} {fl k : Nat} {args : List Value} {h : AH} {r : Value × AH} (e : d_field_GF_Is C fl k args h = some r) : runF C fl k a_field_GF_Is args h = some r := by
  unfold d_field_GF_Is at e
  split at e
  · rename_i n0 n1; exact (field_GF_Is_run C fl k n0 n1 h).trans e
  · cases e
abbrev u70c1t0 (R : Type) := Int → AH → Option R
def u70c1s0 (t4 : Int) : List Value := un 4 (vi t4 :: un 13 [])
def cu70c1_1_2 : ACode := .seq (.region [oI 4 (.mv (ci 0))] []) (.ret)
abbrev u70c1t1 (R : Type) := AH → Option R
def u70c1s1 : List Value := un 18 []
abbrev u70c1t2 (R : Type) := OA → Sl → Int → Int → AH → Option R
def u70c1s2 (t0 : OA) (t7 : Sl) (t8 t9 : Int) : List Value := vn t0 :: un 6 (t7.v :: vi t8 :: vi t9 :: un 8 [])
def cu70c1_1_b : ACode := .seq (.region [oI 10 (.cmp .lss .i64 (.t 9) (.t 8))] []) (.seq (.cond (.t 10) (.region [] [10]) (.seq (.region [] [0, 7, 8, 9, 10]) (.exit 0))) (.seq (.block 1 (.seq (.region [oI 11 (.iaddr 1 (.t 7) (.t 9)), oI 12 (.load (.one (.int .i64)) (.t 11)), oI 6 (.mv (.t 12))] [11, 12]) (.seq (.region [oI 13 (.mv (.t 0)), oI 14 (.mv (.t 6)), oI 15 (.call (.f 109) [.t 13, .t 14] (.one (.one .bool))), oI 16 (.not (.t 15))] [6, 13, 14, 15]) (.cond (.t 16) (.seq (.region [oI 4 (.mv (ci 2))] [0, 7, 8, 9, 16]) (.ret)) (.region [] [16]))))) (.region [oI 17 (.bin .add .i64 (.t 9) (ci 1)), oI 9 (.mv (.t 17))] [17])))
def cu70c1_1 : ACode := .seq (.block 0 (.loop cu70c1_1_b)) cu70c1_1_2
def gcu70c1 (cn : ACode) : ACode := .seq (.seq (.region [oI 4 (.mv (ci 0))] [4]) (.region [oI 7 (.mv (.t 1)), oI 8 (.len (.t 7)), oI 9 (.mv (ci 0))] [1])) cn
def cu70c1 : ACode := gcu70c1 cu70c1_1
abbrev u70c1t3 (R : Type) := OA → Sl → AH → Option R
def u70c1s3 (t0 : OA) (t1 : Sl) : List Value := vn t0 :: t1.v :: un 16 []
def a_matrix_entries : AFunc := ⟨18, cu70c1, [.tmp 4]⟩
theorem ok_matrix_entries : okF Tryz.prog 110 a_matrix_entries = true := by kernel_rfl
def u70c1_1_2 {R : Type} (C : Callee) (fl k : Nat) (kr : u70c1t0 R) : u70c1t1 R := fun h => kr 0 h
theorem u70c1_1_2_e {R} (C fl k) (K : KF R) : (cp0 u70c1s1 (ce C fl k cu70c1_1_2 K)) = u70c1_1_2 C fl k (cp1 u70c1s0 (K .ret)) := by kernel_rfl
def u70c1_1_b {R : Type} (C : Callee) (fl k : Nat) (kn : u70c1t2 R) (e0 : u70c1t1 R) (kr : u70c1t0 R) : u70c1t2 R := fun t0 t7 t8 t9 h => if decide (t9 < t8) = true then idx 1 t7 t9 fun p1 => ldI .i64 h p1.block p1.off fun n2 => callF C fl fn.field_GF_Is [.pointer t0, .int .i64 n2] h fun v3 h4 => asBool v3 fun b5 => if (!b5) = true then kr 2 h4 else kn t0 t7 t8 (w64 (t9 + 1)) h4 else e0 h
theorem u70c1_1_b_e {R} (C fl k) (K : KF R) : (cp4 u70c1s2 (ce C fl k cu70c1_1_b K)) = u70c1_1_b C fl k (cp4 u70c1s2 (K .normal)) (cp0 u70c1s1 (K (.exit 0))) (cp1 u70c1s0 (K .ret)) := by kernel_rfl
def u70c1_1_l {R : Type} (C : Callee) (fl k : Nat) (kn : u70c1t1 R) (kr : u70c1t0 R) : Nat → u70c1t2 R
  | 0 => fun _ _ _ _ _ => none
  | m + 1 => u70c1_1_b C fl k (u70c1_1_l C fl k kn kr m) kn kr
theorem u70c1_1_l_p {R} (C fl k) (K : KF R) : ∀ m, (cp4 u70c1s2 (loopK m (kstep C fl k cu70c1_1_b 0 K))) = u70c1_1_l C fl k (cp0 u70c1s1 (K .normal)) (cp1 u70c1s0 (K .ret)) m
  | 0 => by kernel_rfl
  | m + 1 => (congr1 (fun g => (cp4 u70c1s2 (g))) (loop_ce C fl k cu70c1_1_b 0 K m)).trans ((u70c1_1_b_e C fl k _).trans (congr1 (fun L => u70c1_1_b C fl k L (cp0 u70c1s1 (K .normal)) (cp1 u70c1s0 (K .ret))) (u70c1_1_l_p C fl k K m)))
theorem u70c1_1_l_e {R} (C fl k) (K : KF R) : (cp4 u70c1s2 (ce C fl k (.block 0 (.loop cu70c1_1_b)) K)) = u70c1_1_l C fl k (cp0 u70c1s1 (K .normal)) (cp1 u70c1s0 (K .ret)) k := (congr1 (fun g => (cp4 u70c1s2 (g))) (ce_loop C fl k cu70c1_1_b 0 K)).trans (u70c1_1_l_p C fl k K k)
def u70c1_1 {R : Type} (C : Callee) (fl k : Nat) (kr : u70c1t0 R) : u70c1t2 R := u70c1_1_l C fl k (u70c1_1_2 C fl k kr) kr k
theorem u70c1_1_e {R} (C fl k) (K : KF R) : (cp4 u70c1s2 (ce C fl k cu70c1_1 K)) = u70c1_1 C fl k (cp1 u70c1s0 (K .ret)) := ((congr1 (fun g => (cp4 u70c1s2 (g))) (ce_seq C fl k _ _ K)).trans (u70c1_1_l_e C fl k (kseq C fl k cu70c1_1_2 K))).trans (congr1 (fun L => u70c1_1_l C fl k L (cp1 u70c1s0 (K .ret)) k) ((congr1 (fun g => (cp0 u70c1s1 (g))) (seq_n C fl k cu70c1_1_2 K)).trans (u70c1_1_2_e C fl k K)))
def u70c1F {R : Type} (C : Callee) (fl k : Nat) (kx : u70c1t2 R)  (kr : u70c1t0 R) : u70c1t3 R := fun t0 t1 h => kx t0 t1 ((t1.l : Nat) : Int) 0 h
def u70c1 {R : Type} (C : Callee) (fl k : Nat) (kr : u70c1t0 R) : u70c1t3 R := u70c1F C fl k (u70c1_1 C fl k kr)  kr
theorem u70c1_g {R} (C fl k) (cn : ACode) (K : KF R) : (cp2 u70c1s3 (ce C fl k (gcu70c1 cn) K)) = u70c1F C fl k (cp4 u70c1s2 (ce C fl k cn K)) (cp1 u70c1s0 (K .ret)) := by kernel_rfl
theorem u70c1_e {R} (C fl k) (K : KF R) : (cp2 u70c1s3 (ce C fl k cu70c1 K)) = u70c1 C fl k (cp1 u70c1s0 (K .ret)) := (u70c1_g C fl k cu70c1_1 K).trans (congr1 (fun L0 => u70c1F C fl k L0 (cp1 u70c1s0 (K .ret))) (u70c1_1_e C fl k K))
def matrix_entries (C : Callee) (fl k : Nat) (p0 : OA) (p1 : Sl) (h : AH) : Option (Value × AH) := u70c1 C fl k (fun y4 q => some (.int .i64 y4, q)) p0 p1 h
theorem matrix_entries_run (C fl k) (p0 : OA) (p1 : Sl) (h) : runF C fl k a_matrix_entries [.pointer p0, .slice p1.a p1.l p1.c] h = matrix_entries C fl k p0 p1 h :=
  (runF_ce C fl k a_matrix_entries [.pointer p0, .slice p1.a p1.l p1.c] h cu70c1 (u70c1s3 p0 p1) rfl (by kernel_rfl)).trans ((cp2_ap u70c1s3 (ce C fl k cu70c1 (finalK a_matrix_entries.results)) p0 p1 h).symm.trans ((congrFun (congrFun (congrFun (u70c1_e C fl k (finalK a_matrix_entries.results)) p0) p1) h).trans (show u70c1 C fl k (cp1 u70c1s0 ((finalK a_matrix_entries.results) .ret)) p0 p1 h = matrix_entries C fl k p0 p1 h by kernel_rfl)))
def d_matrix_entries (C : Callee) (fl k : Nat) (args : List Value) (h : AH) : Option (Value × AH) := match args with
  | [.pointer n0, .slice n1a n1l n1c] => matrix_entries C fl k n0 ⟨n1a, n1l, n1c⟩ h
  | _ => none
theorem d_matrix_entries_run {C : Callee} {fl k : Nat} {args : List Value} {h : AH} {r : Value × AH} (e : d_matrix_entries C fl k args h = some r) : runF C fl k a_matrix_entries args h = some r := by
  unfold d_matrix_entries at e
  split at e
  · rename_i n0 n1a n1l n1c; exact (matrix_entries_run C fl k n0 ⟨n1a, n1l, n1c⟩ h).trans e
  · cases e
abbrev ui3ebt0 (R : Type) := Sl → AH → Option R
def ui3ebs0 (t8 : Sl) : List Value := un 8 (t8.v :: un 24 [])
def cui3eb_1_2 : ACode := .seq (.region [oI 32 (.mv (.t 9)), oI 8 (.mv (.t 32))] [9, 32]) (.ret)
abbrev ui3ebt1 (R : Type) := Sl → AH → Option R
def ui3ebs1 (t9 : Sl) : List Value := un 9 (t9.v :: un 23 [])
abbrev ui3ebt2 (R : Type) := OA → Sl → Sl → Sl → Int → Int → AH → Option R
def ui3ebs2 (t0 : OA) (t2 t9 t14 : Sl) (t15 t16 : Int) : List Value := vn t0 :: un 1 (t2.v :: un 6 (t9.v :: un 4 (t14.v :: vi t15 :: vi t16 :: un 16 [])))
def cui3eb_1_b_3 : ACode := .region [oI 31 (.bin .add .i64 (.t 16) (ci 1)), oI 16 (.mv (.t 31))] [31]
def gcui3eb_1_b (cn : ACode) : ACode := .seq (.seq (.region [oI 17 (.cmp .lss .i64 (.t 16) (.t 15))] []) (.seq (.cond (.t 17) (.region [] [17]) (.seq (.region [] [0, 2, 14, 15, 16, 17]) (.exit 0))) (.block 1 (.seq (.region [oI 18 (.mv (.t 16)), oI 19 (.iaddr 1 (.t 14) (.t 16)), oI 20 (.load (.one (.int .i64)) (.t 19)), oI 10 (.mv (.t 18)), oI 11 (.mv (.t 20))] [18, 19, 20]) (.seq (.region [oI 21 (.mv (.t 11)), oI 22 (.cmp .neq .i64 (.t 21) (ci 0))] [21]) (.cond (.t 22) (.region [oI 23 (.mv (.t 0)), oI 24 (.mv (.t 9)), oI 25 (.mv (.t 11)), oI 26 (.mv (.t 2)), oI 27 (.mv (.t 10)), oI 28 (.iaddr 1 (.t 26) (.t 27)), oI 29 (.load (.one .slice) (.t 28)), oI 30 (.call (.f 145) [.t 23, .t 24, .t 25, .t 29] (.tup []))] [10, 11, 22, 23, 24, 25, 26, 27, 28, 29, 30]) (.region [] [10, 11, 22]))))))) cn
def cui3eb_1_b : ACode := gcui3eb_1_b cui3eb_1_b_3
def cui3eb_1 : ACode := .seq (.block 0 (.loop cui3eb_1_b)) cui3eb_1_2
def gcui3eb (cn : ACode) : ACode := .seq (.seq (.region [oI 8 (.mv (.c (.slice none 0 0)))] [8]) (.seq (.region [oI 12 (.mv (.t 3)), oI 13 (.mkslice 8 [.int .i64 0] (.t 12) (.t 12)), oI 9 (.mv (.t 13))] [3, 12, 13]) (.region [oI 14 (.mv (.t 1)), oI 15 (.len (.t 14)), oI 16 (.mv (ci 0))] [1]))) cn
def cui3eb : ACode := gcui3eb cui3eb_1
abbrev ui3ebt3 (R : Type) := OA → Sl → Sl → Int → AH → Option R
def ui3ebs3 (t0 : OA) (t1 t2 : Sl) (t3 : Int) : List Value := vn t0 :: t1.v :: t2.v :: vi t3 :: un 29 []
def a_matrix_vec : AFunc := ⟨33, cui3eb, [.tmp 8]⟩
theorem ok_matrix_vec : okF Tryz.prog 111 a_matrix_vec = true := by kernel_rfl
def ui3eb_1_2 {R : Type} (C : Callee) (fl k : Nat) (kr : ui3ebt0 R) : ui3ebt1 R := fun t9 h => kr t9 h
theorem ui3eb_1_2_e {R} (C fl k) (K : KF R) : (cp1 ui3ebs1 (ce C fl k cui3eb_1_2 K)) = ui3eb_1_2 C fl k (cp1 ui3ebs0 (K .ret)) := by kernel_rfl
def ui3eb_1_b_3 {R : Type} (C : Callee) (fl k : Nat) (kn : ui3ebt2 R) (e0 : ui3ebt1 R) : ui3ebt2 R := fun t0 t2 t9 t14 t15 t16 h => kn t0 t2 t9 t14 t15 (w64 (t16 + 1)) h
theorem ui3eb_1_b_3_e {R} (C fl k) (K : KF R) : (cp6 ui3ebs2 (ce C fl k cui3eb_1_b_3 K)) = ui3eb_1_b_3 C fl k (cp6 ui3ebs2 (K .normal)) (cp1 ui3ebs1 (K (.exit 0))) := by kernel_rfl
def ui3eb_1_bF {R : Type} (C : Callee) (fl k : Nat) (kx : ui3ebt2 R)  (kn : ui3ebt2 R) (e0 : ui3ebt1 R) : ui3ebt2 R := fun t0 t2 t9 t14 t15 t16 h => if decide (t16 < t15) = true then idx 1 t14 t16 fun p1 => ldI .i64 h p1.block p1.off fun n2 => if (n2 != 0) = true then idx 1 t2 t16 fun p3 => ldS h p3.block p3.off fun s4 => callF C fl fn.matrix_add [.pointer t0, .slice t9.a t9.l t9.c, .int .i64 n2, .slice s4.a s4.l s4.c] h fun v5 h6 => asTup v5 fun l7 => unil l7 (kx t0 t2 t9 t14 t15 t16 h6) else kx t0 t2 t9 t14 t15 t16 h else e0 t9 h
def ui3eb_1_b {R : Type} (C : Callee) (fl k : Nat) (kn : ui3ebt2 R) (e0 : ui3ebt1 R) : ui3ebt2 R := ui3eb_1_bF C fl k (ui3eb_1_b_3 C fl k kn e0)  kn e0
theorem ui3eb_1_b_g {R} (C fl k) (cn : ACode) (K : KF R) : (cp6 ui3ebs2 (ce C fl k (gcui3eb_1_b cn) K)) = ui3eb_1_bF C fl k (cp6 ui3ebs2 (ce C fl k cn K)) (cp6 ui3ebs2 (K .normal)) (cp1 ui3ebs1 (K (.exit 0))) := by kernel_rfl
theorem ui3eb_1_b_e {R} (C fl k) (K : KF R) : (cp6 ui3ebs2 (ce C fl k cui3eb_1_b K)) = ui3eb_1_b C fl k (cp6 ui3ebs2 (K .normal)) (cp1 ui3ebs1 (K (.exit 0))) := (ui3eb_1_b_g C fl k cui3eb_1_b_3 K).trans (congr1 (fun L0 => ui3eb_1_bF C fl k L0 (cp6 ui3ebs2 (K .normal)) (cp1 ui3ebs1 (K (.exit 0)))) (ui3eb_1_b_3_e C fl k K))
def ui3eb_1_l {R : Type} (C : Callee) (fl k : Nat) (kn : ui3ebt1 R) : Nat → ui3ebt2 R
  | 0 => fun _ _ _ _ _ _ _ => none
  | m + 1 => ui3eb_1_b C fl k (ui3eb_1_l C fl k kn m) kn
theorem ui3eb_1_l_p {R} (C fl k) (K : KF R) : ∀ m, (cp6 ui3ebs2 (loopK m (kstep C fl k cui3eb_1_b 0 K))) = ui3eb_1_l C fl k (cp1 ui3ebs1 (K .normal)) m
  | 0 => by kernel_rfl
  | m + 1 => (congr1 (fun g => (cp6 ui3ebs2 (g))) (loop_ce C fl k cui3eb_1_b 0 K m)).trans ((ui3eb_1_b_e C fl k _).trans (congr1 (fun L => ui3eb_1_b C fl k L (cp1 ui3ebs1 (K .normal))) (ui3eb_1_l_p C fl k K m)))
theorem ui3eb_1_l_e {R} (C fl k) (K : KF R) : (cp6 ui3ebs2 (ce C fl k (.block 0 (.loop cui3eb_1_b)) K)) = ui3eb_1_l C fl k (cp1 ui3ebs1 (K .normal)) k := (congr1 (fun g => (cp6 ui3ebs2 (g))) (ce_loop C fl k cui3eb_1_b 0 K)).trans (ui3eb_1_l_p C fl k K k)
def ui3eb_1 {R : Type} (C : Callee) (fl k : Nat) (kr : ui3ebt0 R) : ui3ebt2 R := ui3eb_1_l C fl k (ui3eb_1_2 C fl k kr) k
theorem ui3eb_1_e {R} (C fl k) (K : KF R) : (cp6 ui3ebs2 (ce C fl k cui3eb_1 K)) = ui3eb_1 C fl k (cp1 ui3ebs0 (K .ret)) := ((congr1 (fun g => (cp6 ui3ebs2 (g))) (ce_seq C fl k _ _ K)).trans (ui3eb_1_l_e C fl k (kseq C fl k cui3eb_1_2 K))).trans (congr1 (fun L => ui3eb_1_l C fl k L k) ((congr1 (fun g => (cp1 ui3ebs1 (g))) (seq_n C fl k cui3eb_1_2 K)).trans (ui3eb_1_2_e C fl k K)))
def ui3ebF {R : Type} (C : Callee) (fl k : Nat) (kx : ui3ebt2 R)  (kr : ui3ebt0 R) : ui3ebt3 R := fun t0 t1 t2 t3 h => mkSl 8 [.int .i64 0] t3 t3 h fun s8 h9 => kx t0 t2 s8 t1 ((t1.l : Nat) : Int) 0 h9
def ui3eb {R : Type} (C : Callee) (fl k : Nat) (kr : ui3ebt0 R) : ui3ebt3 R := ui3ebF C fl k (ui3eb_1 C fl k kr)  kr
theorem ui3eb_g {R} (C fl k) (cn : ACode) (K : KF R) : (cp4 ui3ebs3 (ce C fl k (gcui3eb cn) K)) = ui3ebF C fl k (cp6 ui3ebs2 (ce C fl k cn K)) (cp1 ui3ebs0 (K .ret)) := by kernel_rfl
theorem ui3eb_e {R} (C fl k) (K : KF R) : (cp4 ui3ebs3 (ce C fl k cui3eb K)) = ui3eb C fl k (cp1 ui3ebs0 (K .ret)) := (ui3eb_g C fl k cui3eb_1 K).trans (congr1 (fun L0 => ui3ebF C fl k L0 (cp1 ui3ebs0 (K .ret))) (ui3eb_1_e C fl k K))
def matrix_vec (C : Callee) (fl k : Nat) (p0 : OA) (p1 p2 : Sl) (p3 : Int) (h : AH) : Option (Value × AH) := ui3eb C fl k (fun y8 q => some (.slice y8.a y8.l y8.c, q)) p0 p1 p2 p3 h
theorem matrix_vec_run (C fl k) (p0 : OA) (p1 p2 : Sl) (p3 : Int) (h) : runF C fl k a_matrix_vec [.pointer p0, .slice p1.a p1.l p1.c, .slice p2.a p2.l p2.c, .int .i64 p3] h = matrix_vec C fl k p0 p1 p2 p3 h :=
  (runF_ce C fl k a_matrix_vec [.pointer p0, .slice p1.a p1.l p1.c, .slice p2.a p2.l p2.c, .int .i64 p3] h cui3eb (ui3ebs3 p0 p1 p2 p3) rfl (by kernel_rfl)).trans ((cp4_ap ui3ebs3 (ce C fl k cui3eb (finalK a_matrix_vec.results)) p0 p1 p2 p3 h).symm.trans ((congrFun (congrFun (congrFun (congrFun (congrFun (ui3eb_e C fl k (finalK a_matrix_vec.results)) p0) p1) p2) p3) h).trans (show ui3eb C fl k (cp1 ui3ebs0 ((finalK a_matrix_vec.results) .ret)) p0 p1 p2 p3 h = matrix_vec C fl k p0 p1 p2 p3 h by kernel_rfl)))
def d_matrix_vec (C : Callee) (fl k : Nat) (args : List Value) (h : AH) : Option (Value × AH) := match args with
  | [.pointer n0, .slice n1a n1l n1c, .slice n2a n2l n2c, .int .i64 n3] => matrix_vec C fl k n0 ⟨n1a, n1l, n1c⟩ ⟨n2a, n2l, n2c⟩ n3 h
  | _ => none
theorem d_matrix_vec_run {C : Callee} {fl k : Nat} {args : List Value} {h : AH} {r : Value × AH} (e : d_matrix_vec C fl k args h = some r) : runF C fl k a_matrix_vec args h = some r := by
  unfold d_matrix_vec at e
  split at e
  · rename_i n0 n1a n1l n1c n2a n2l n2c n3; exact (matrix_vec_run C fl k n0 ⟨n1a, n1l, n1c⟩ ⟨n2a, n2l, n2c⟩ n3 h).trans e
  · cases e
abbrev u4so3t0 (R : Type) := Bool → AH → Option R
def u4so3s0 (t2 : Bool) : List Value := un 2 (.bool t2 :: un 43 [])
def cu4so3_1_2 : ACode := .seq (.region [oI 2 (.mv (.c (.bool true)))] []) (.ret)
abbrev u4so3t1 (R : Type) := AH → Option R
def u4so3s1 : List Value := un 46 []
abbrev u4so3t2 (R : Type) := Addr → Sl → Int → Int → AH → Option R
def u4so3s2 (t1 : Addr) (t31 : Sl) (t32 t33 : Int) : List Value := un 1 (vp t1 :: un 29 (t31.v :: vi t32 :: vi t33 :: un 12 []))
def cu4so3_1_b : ACode := .seq (.region [oI 34 (.cmp .lss .i64 (.t 33) (.t 32))] []) (.seq (.cond (.t 34) (.region [] [34]) (.seq (.region [] [1, 31, 32, 33, 34]) (.exit 0))) (.seq (.block 1 (.seq (.region [oI 35 (.iaddr 1 (.t 31) (.t 33)), oI 36 (.load (.one (.int .i64)) (.t 35)), oI 4 (.mv (.t 36))] [35, 36]) (.seq (.region [oI 37 (.mv (.t 4)), oI 38 (.cmp .lss .i64 (.t 37) (ci 0)), oI 39 (.mv (.t 38)), .grp 39 false [qI 40 (.mv (.t 4)), qI 41 (.faddr 0 (.t 1)), qI 42 (.load (.one (.int .i64)) (.t 41)), qI 43 (.cmp .geq .i64 (.t 40) (.t 42))], oI 44 (.pick (.t 39) (.c (.bool true)) (.t 43))] [4, 37, 38, 39, 40, 41, 42, 43]) (.cond (.t 44) (.seq (.region [oI 2 (.mv (.c (.bool false)))] [1, 31, 32, 33, 44]) (.ret)) (.region [] [44]))))) (.region [oI 45 (.bin .add .i64 (.t 33) (ci 1)), oI 33 (.mv (.t 45))] [45])))
def cu4so3_1 : ACode := .seq (.block 0 (.loop cu4so3_1_b)) cu4so3_1_2
def gcu4so3 (cn : ACode) : ACode := .seq (.seq (.region [oI 1 (.box (.t 0)), oI 2 (.mv (.c (.bool false)))] [0, 2]) (.seq (.region [oI 5 (.faddr 0 (.t 1)), oI 6 (.load (.one (.int .i64)) (.t 5)), oI 7 (.faddr 1 (.t 1)), oI 8 (.load (.one (.int .i64)) (.t 7)), oI 9 (.call (.f 113) [.t 6, .t 8] (.one (.one (.int .i64)))), oI 10 (.cmp .eql .i64 (.t 9) (ci 0)), oI 11 (.mv (.t 10)), .grp 11 false [qI 12 (.faddr 0 (.t 1)), qI 13 (.load (.one (.int .i64)) (.t 12)), qI 14 (.call (.f 146) [.t 13] (.one (.one .bool))), qI 15 (.not (.t 14))], oI 16 (.pick (.t 11) (.c (.bool true)) (.t 15))] [5, 6, 7, 8, 9, 10, 11, 12, 13, 14, 15]) (.seq (.cond (.t 16) (.seq (.region [oI 2 (.mv (.c (.bool false)))] [1, 16]) (.ret)) (.region [] [16])) (.seq (.region [oI 17 (.faddr 1 (.t 1)), oI 18 (.load (.one (.int .i64)) (.t 17)), oI 19 (.cmp .eql .i64 (.t 18) (ci 1))] [17, 18]) (.seq (.cond (.t 19) (.seq (.region [oI 20 (.faddr 2 (.t 1)), oI 21 (.load (.one .slice) (.t 20)), oI 22 (.len (.t 21)), oI 23 (.cmp .eql .i64 (.t 22) (ci 0)), oI 2 (.mv (.t 23))] [1, 19, 20, 21, 22, 23]) (.ret)) (.region [] [19])) (.seq (.region [oI 24 (.faddr 2 (.t 1)), oI 25 (.load (.one .slice) (.t 24)), oI 26 (.len (.t 25)), oI 27 (.faddr 1 (.t 1)), oI 28 (.load (.one (.int .i64)) (.t 27)), oI 29 (.cmp .neq .i64 (.t 26) (.t 28))] [24, 25, 26, 27, 28]) (.seq (.cond (.t 29) (.seq (.region [oI 2 (.mv (.c (.bool false)))] [1, 29]) (.ret)) (.region [] [29])) (.region [oI 30 (.faddr 2 (.t 1)), oI 31 (.load (.one .slice) (.t 30)), oI 32 (.len (.t 31)), oI 33 (.mv (ci 0))] [30])))))))) cn
def cu4so3 : ACode := gcu4so3 cu4so3_1
abbrev u4so3t3 (R : Type) := Int → Int → Sl → AH → Option R
def u4so3s3 (t0_0 t0_1 : Int) (t0_2 : Sl) : List Value := .agg ⟨[.int .i64 t0_0, .int .i64 t0_1, .slice t0_2.a t0_2.l t0_2.c]⟩ :: un 45 []
def a_field_shape : AFunc := ⟨46, cu4so3, [.tmp 2]⟩
theorem ok_field_shape : okF Tryz.prog 112 a_field_shape = true := by kernel_rfl
def u4so3_1_2 {R : Type} (C : Callee) (fl k : Nat) (kr : u4so3t0 R) : u4so3t1 R := fun h => kr true h
theorem u4so3_1_2_e {R} (C fl k) (K : KF R) : (cp0 u4so3s1 (ce C fl k cu4so3_1_2 K)) = u4so3_1_2 C fl k (cp1 u4so3s0 (K .ret)) := by kernel_rfl
def u4so3_1_b {R : Type} (C : Callee) (fl k : Nat) (kn : u4so3t2 R) (e0 : u4so3t1 R) (kr : u4so3t0 R) : u4so3t2 R := fun t1 t31 t32 t33 h => if decide (t33 < t32) = true then idx 1 t31 t33 fun p1 => ldI .i64 h p1.block p1.off fun n2 => if decide (n2 < 0) = false then ldI .i64 h t1.block t1.off fun n3 => if decide (n2 ≥ n3) = true then kr false h else kn t1 t31 t32 (w64 (t33 + 1)) h else kr false h else e0 h
theorem u4so3_1_b_e {R} (C fl k) (K : KF R) : (cp4 u4so3s2 (ce C fl k cu4so3_1_b K)) = u4so3_1_b C fl k (cp4 u4so3s2 (K .normal)) (cp0 u4so3s1 (K (.exit 0))) (cp1 u4so3s0 (K .ret)) := by kernel_rfl
def u4so3_1_l {R : Type} (C : Callee) (fl k : Nat) (kn : u4so3t1 R) (kr : u4so3t0 R) : Nat → u4so3t2 R
  | 0 => fun _ _ _ _ _ => none
  | m + 1 => u4so3_1_b C fl k (u4so3_1_l C fl k kn kr m) kn kr
theorem u4so3_1_l_p {R} (C fl k) (K : KF R) : ∀ m, (cp4 u4so3s2 (loopK m (kstep C fl k cu4so3_1_b 0 K))) = u4so3_1_l C fl k (cp0 u4so3s1 (K .normal)) (cp1 u4so3s0 (K .ret)) m
  | 0 => by kernel_rfl
  | m + 1 => (congr1 (fun g => (cp4 u4so3s2 (g))) (loop_ce C fl k cu4so3_1_b 0 K m)).trans ((u4so3_1_b_e C fl k _).trans (congr1 (fun L => u4so3_1_b C fl k L (cp0 u4so3s1 (K .normal)) (cp1 u4so3s0 (K .ret))) (u4so3_1_l_p C fl k K m)))
theorem u4so3_1_l_e {R} (C fl k) (K : KF R) : (cp4 u4so3s2 (ce C fl k (.block 0 (.loop cu4so3_1_b)) K)) = u4so3_1_l C fl k (cp0 u4so3s1 (K .normal)) (cp1 u4so3s0 (K .ret)) k := (congr1 (fun g => (cp4 u4so3s2 (g))) (ce_loop C fl k cu4so3_1_b 0 K)).trans (u4so3_1_l_p C fl k K k)
def u4so3_1 {R : Type} (C : Callee) (fl k : Nat) (kr : u4so3t0 R) : u4so3t2 R := u4so3_1_l C fl k (u4so3_1_2 C fl k kr) kr k
theorem u4so3_1_e {R} (C fl k) (K : KF R) : (cp4 u4so3s2 (ce C fl k cu4so3_1 K)) = u4so3_1 C fl k (cp1 u4so3s0 (K .ret)) := ((congr1 (fun g => (cp4 u4so3s2 (g))) (ce_seq C fl k _ _ K)).trans (u4so3_1_l_e C fl k (kseq C fl k cu4so3_1_2 K))).trans (congr1 (fun L => u4so3_1_l C fl k L (cp1 u4so3s0 (K .ret)) k) ((congr1 (fun g => (cp0 u4so3s1 (g))) (seq_n C fl k cu4so3_1_2 K)).trans (u4so3_1_2_e C fl k K)))
def u4so3F {R : Type} (C : Callee) (fl k : Nat) (kx : u4so3t2 R)  (kr : u4so3t0 R) : u4so3t3 R := fun t0_0 t0_1 t0_2 h => alc h [.int .i64 t0_0, .int .i64 t0_1, .slice t0_2.a t0_2.l t0_2.c] fun b4 h5 => ldI .i64 h5 b4 0 fun n6 => ldI .i64 h5 b4 1 fun n7 => callF C fl fn.field_order [.int .i64 n6, .int .i64 n7] h5 fun v8 h9 => asInt .i64 v8 fun n10 => if (n10 == 0) = false then ldI .i64 h9 b4 0 fun n11 => callF C fl fn.field_isPrime [.int .i64 n11] h9 fun v12 h13 => asBool v12 fun b14 => if (!b14) = true then kr false h13 else ldI .i64 h13 b4 1 fun n15 => if (n15 == 1) = true then ldS h13 b4 2 fun s16 => kr (((s16.l : Nat) : Int) == 0) h13 else ldS h13 b4 2 fun s17 => ldI .i64 h13 b4 1 fun n18 => if (((s17.l : Nat) : Int) != n18) = true then kr false h13 else ldS h13 b4 2 fun s19 => kx ⟨b4, 0, none⟩ s19 ((s19.l : Nat) : Int) 0 h13 else kr false h9
def u4so3 {R : Type} (C : Callee) (fl k : Nat) (kr : u4so3t0 R) : u4so3t3 R := u4so3F C fl k (u4so3_1 C fl k kr)  kr
theorem u4so3_g {R} (C fl k) (cn : ACode) (K : KF R) : (cp3 u4so3s3 (ce C fl k (gcu4so3 cn) K)) = u4so3F C fl k (cp4 u4so3s2 (ce C fl k cn K)) (cp1 u4so3s0 (K .ret)) := by kernel_rfl
theorem u4so3_e {R} (C fl k) (K : KF R) : (cp3 u4so3s3 (ce C fl k cu4so3 K)) = u4so3 C fl k (cp1 u4so3s0 (K .ret)) := (u4so3_g C fl k cu4so3_1 K).trans (congr1 (fun L0 => u4so3F C fl k L0 (cp1 u4so3s0 (K .ret))) (u4so3_1_e C fl k K))
def field_shape (C : Callee) (fl k : Nat) (p0_0 p0_1 : Int) (p0_2 : Sl) (h : AH) : Option (Value × AH) := u4so3 C fl k (fun y2 q => some (.bool y2, q)) p0_0 p0_1 p0_2 h
theorem field_shape_run (C fl k) (p0_0 p0_1 : Int) (p0_2 : Sl) (h) : runF C fl k a_field_shape [.agg ⟨[.int .i64 p0_0, .int .i64 p0_1, .slice p0_2.a p0_2.l p0_2.c]⟩] h = field_shape C fl k p0_0 p0_1 p0_2 h :=
  (runF_ce C fl k a_field_shape [.agg ⟨[.int .i64 p0_0, .int .i64 p0_1, .slice p0_2.a p0_2.l p0_2.c]⟩] h cu4so3 (u4so3s3 p0_0 p0_1 p0_2) rfl (by kernel_rfl)).trans ((cp3_ap u4so3s3 (ce C fl k cu4so3 (finalK a_field_shape.results)) p0_0 p0_1 p0_2 h).symm.trans ((congrFun (congrFun (congrFun (congrFun (u4so3_e C fl k (finalK a_field_shape.results)) p0_0) p0_1) p0_2) h).trans (show u4so3 C fl k (cp1 u4so3s0 ((finalK a_field_shape.results) .ret)) p0_0 p0_1 p0_2 h = field_shape C fl k p0_0 p0_1 p0_2 h by kernel_rfl)))
def d_field_shape (C : Callee) (fl k : Nat) (args : List Value) (h : AH) : Option (Value × AH) := match args with
  | [.agg ⟨[.int .i64 n1, .int .i64 n2, .slice n3a n3l n3c]⟩] => field_shape C fl k n1 n2 ⟨n3a, n3l, n3c⟩ h
  | _ => none
theorem d_field_shape_run {C : Callee} {fl k : Nat} {args : List Value} {h : AH} {r : Value × AH} (e : d_field_shape C fl k args h = some r) : runF C fl k a_field_shape args h = some r := by
  unfold d_field_shape at e
  split at e
  · rename_i n1 n2 n3a n3l n3c; exact (field_shape_run C fl k n1 n2 ⟨n3a, n3l, n3c⟩ h).trans e
  · cases e
abbrev u1co3t0 (R : Type) := Int → AH → Option R
def u1co3s0 (t4 : Int) : List Value := un 4 (vi t4 :: un 25 [])
def cu1co3_1_2 : ACode := .seq (.region [oI 29 (.mv (.t 5)), oI 4 (.mv (.t 29))] [5, 29]) (.ret)
abbrev u1co3t1 (R : Type) := Int → AH → Option R
def u1co3s1 (t5 : Int) : List Value := un 5 (vi t5 :: un 24 [])
abbrev u1co3t2 (R : Type) := Int → Int → Int → Int → AH → Option R
def u1co3s2 (t0 t5 t20 t21 : Int) : List Value := vi t0 :: un 4 (vi t5 :: un 14 (vi t20 :: vi t21 :: un 8 []))
def cu1co3_1_b : ACode := .seq (.region [oI 22 (.cmp .lss .i64 (.t 21) (.t 20))] []) (.seq (.cond (.t 22) (.region [] [22]) (.seq (.region [] [0, 20, 21, 22]) (.exit 0))) (.seq (.block 1 (.seq (.region [oI 23 (.mv (.t 5)), oI 24 (.mv (.t 0)), oI 25 (.bin .mul .i64 (.t 23) (.t 24)), oI 5 (.mv (.t 25))] [23, 24, 25]) (.seq (.region [oI 26 (.mv (.t 5)), oI 27 (.cmp .gtr .i64 (.t 26) (ci 256))] [26]) (.cond (.t 27) (.seq (.region [oI 4 (.mv (ci 0))] [0, 5, 20, 21, 27]) (.ret)) (.region [] [27]))))) (.region [oI 28 (.bin .add .i64 (.t 21) (ci 1)), oI 21 (.mv (.t 28))] [28])))
def cu1co3_1 : ACode := .seq (.block 0 (.loop cu1co3_1_b)) cu1co3_1_2
def gcu1co3 (cn : ACode) : ACode := .seq (.seq (.region [oI 4 (.mv (ci 0))] [4]) (.seq (.region [oI 6 (.mv (.t 0)), oI 7 (.cmp .lss .i64 (.t 6) (ci 2)), oI 8 (.mv (.t 7)), .grp 8 false [qI 9 (.mv (.t 0)), qI 10 (.cmp .gtr .i64 (.t 9) (ci 256))], oI 11 (.pick (.t 8) (.c (.bool true)) (.t 10)), oI 12 (.mv (.t 11)), .grp 12 false [qI 13 (.mv (.t 1)), qI 14 (.cmp .lss .i64 (.t 13) (ci 1))], oI 15 (.pick (.t 12) (.c (.bool true)) (.t 14)), oI 16 (.mv (.t 15)), .grp 16 false [qI 17 (.mv (.t 1)), qI 18 (.cmp .gtr .i64 (.t 17) (ci 8))], oI 19 (.pick (.t 16) (.c (.bool true)) (.t 18))] [6, 7, 8, 9, 10, 11, 12, 13, 14, 15, 16, 17, 18]) (.seq (.cond (.t 19) (.seq (.region [oI 4 (.mv (ci 0))] [0, 1, 19]) (.ret)) (.region [] [19])) (.seq (.region [oI 5 (.mv (ci 1))] []) (.region [oI 20 (.mv (.t 1)), oI 21 (.mv (ci 0))] [1]))))) cn
def cu1co3 : ACode := gcu1co3 cu1co3_1
abbrev u1co3t3 (R : Type) := Int → Int → AH → Option R
def u1co3s3 (t0 t1 : Int) : List Value := vi t0 :: vi t1 :: un 28 []
def a_field_order : AFunc := ⟨30, cu1co3, [.tmp 4]⟩
theorem ok_field_order : okF Tryz.prog 113 a_field_order = true := by kernel_rfl
def u1co3_1_2 {R : Type} (C : Callee) (fl k : Nat) (kr : u1co3t0 R) : u1co3t1 R := fun t5 h => kr t5 h
theorem u1co3_1_2_e {R} (C fl k) (K : KF R) : (cp1 u1co3s1 (ce C fl k cu1co3_1_2 K)) = u1co3_1_2 C fl k (cp1 u1co3s0 (K .ret)) := by kernel_rfl
def u1co3_1_b {R : Type} (C : Callee) (fl k : Nat) (kn : u1co3t2 R) (e0 : u1co3t1 R) (kr : u1co3t0 R) : u1co3t2 R := fun t0 t5 t20 t21 h => if decide (t21 < t20) = true then if decide (w64 (t5 * t0) > 256) = true then kr 0 h else kn t0 (w64 (t5 * t0)) t20 (w64 (t21 + 1)) h else e0 t5 h
theorem u1co3_1_b_e {R} (C fl k) (K : KF R) : (cp4 u1co3s2 (ce C fl k cu1co3_1_b K)) = u1co3_1_b C fl k (cp4 u1co3s2 (K .normal)) (cp1 u1co3s1 (K (.exit 0))) (cp1 u1co3s0 (K .ret)) := by kernel_rfl
def u1co3_1_l {R : Type} (C : Callee) (fl k : Nat) (kn : u1co3t1 R) (kr : u1co3t0 R) : Nat → u1co3t2 R
  | 0 => fun _ _ _ _ _ => none
  | m + 1 => u1co3_1_b C fl k (u1co3_1_l C fl k kn kr m) kn kr
theorem u1co3_1_l_p {R} (C fl k) (K : KF R) : ∀ m, (cp4 u1co3s2 (loopK m (kstep C fl k cu1co3_1_b 0 K))) = u1co3_1_l C fl k (cp1 u1co3s1 (K .normal)) (cp1 u1co3s0 (K .ret)) m
  | 0 => by kernel_rfl
  | m + 1 => (congr1 (fun g => (cp4 u1co3s2 (g))) (loop_ce C fl k cu1co3_1_b 0 K m)).trans ((u1co3_1_b_e C fl k _).trans (congr1 (fun L => u1co3_1_b C fl k L (cp1 u1co3s1 (K .normal)) (cp1 u1co3s0 (K .ret))) (u1co3_1_l_p C fl k K m)))
theorem u1co3_1_l_e {R} (C fl k) (K : KF R) : (cp4 u1co3s2 (ce C fl k (.block 0 (.loop cu1co3_1_b)) K)) = u1co3_1_l C fl k (cp1 u1co3s1 (K .normal)) (cp1 u1co3s0 (K .ret)) k := (congr1 (fun g => (cp4 u1co3s2 (g))) (ce_loop C fl k cu1co3_1_b 0 K)).trans (u1co3_1_l_p C fl k K k)
def u1co3_1 {R : Type} (C : Callee) (fl k : Nat) (kr : u1co3t0 R) : u1co3t2 R := u1co3_1_l C fl k (u1co3_1_2 C fl k kr) kr k
theorem u1co3_1_e {R} (C fl k) (K : KF R) : (cp4 u1co3s2 (ce C fl k cu1co3_1 K)) = u1co3_1 C fl k (cp1 u1co3s0 (K .ret)) := ((congr1 (fun g => (cp4 u1co3s2 (g))) (ce_seq C fl k _ _ K)).trans (u1co3_1_l_e C fl k (kseq C fl k cu1co3_1_2 K))).trans (congr1 (fun L => u1co3_1_l C fl k L (cp1 u1co3s0 (K .ret)) k) ((congr1 (fun g => (cp1 u1co3s1 (g))) (seq_n C fl k cu1co3_1_2 K)).trans (u1co3_1_2_e C fl k K)))
def u1co3F {R : Type} (C : Callee) (fl k : Nat) (kx : u1co3t2 R)  (kr : u1co3t0 R) : u1co3t3 R := fun t0 t1 h => if decide (t0 < 2) = false then if decide (t0 > 256) = false then if decide (t1 < 1) = false then if decide (t1 > 8) = true then kr 0 h else kx t0 1 t1 0 h else kr 0 h else kr 0 h else kr 0 h
def u1co3 {R : Type} (C : Callee) (fl k : Nat) (kr : u1co3t0 R) : u1co3t3 R := u1co3F C fl k (u1co3_1 C fl k kr)  kr
theorem u1co3_g {R} (C fl k) (cn : ACode) (K : KF R) : (cp2 u1co3s3 (ce C fl k (gcu1co3 cn) K)) = u1co3F C fl k (cp4 u1co3s2 (ce C fl k cn K)) (cp1 u1co3s0 (K .ret)) := by kernel_rfl
theorem u1co3_e {R} (C fl k) (K : KF R) : (cp2 u1co3s3 (ce C fl k cu1co3 K)) = u1co3 C fl k (cp1 u1co3s0 (K .ret)) := (u1co3_g C fl k cu1co3_1 K).trans (congr1 (fun L0 => u1co3F C fl k L0 (cp1 u1co3s0 (K .ret))) (u1co3_1_e C fl k K))
def field_order (C : Callee) (fl k : Nat) (p0 p1 : Int) (h : AH) : Option (Value × AH) := u1co3 C fl k (fun y4 q => some (.int .i64 y4, q)) p0 p1 h
theorem field_order_run (C fl k) (p0 p1 : Int) (h) : runF C fl k a_field_order [.int .i64 p0, .int .i64 p1] h = field_order C fl k p0 p1 h :=
  (runF_ce C fl k a_field_order [.int .i64 p0, .int .i64 p1] h cu1co3 (u1co3s3 p0 p1) rfl (by kernel_rfl)).trans ((cp2_ap u1co3s3 (ce C fl k cu1co3 (finalK a_field_order.results)) p0 p1 h).symm.trans ((congrFun (congrFun (congrFun (u1co3_e C fl k (finalK a_field_order.results)) p0) p1) h).trans (show u1co3 C fl k (cp1 u1co3s0 ((finalK a_field_order.results) .ret)) p0 p1 h = field_order C fl k p0 p1 h by kernel_rfl)))
def d_field_order (C : Callee) (fl k : Nat) (args : List Value) (h : AH) : Option (Value × AH) := match args with
  | [.int .i64 n0, .int .i64 n1] => field_order C fl k n0 n1 h
  | _ => none
theorem d_field_order_run {C : Callee} {fl k : Nat} {args : List Value} {h : AH} {r : Value × AH} (e : d_field_order C fl k args h = some r) : runF C fl k a_field_order args h = some r := by
  unfold d_field_order at e
  split at e
  · rename_i n0 n1; exact (field_order_run C fl k n0 n1 h).trans e
  · cases e
abbrev u9beit0 (R : Type) := Sl → AH → Option R
def u9beis0 (t4 : Sl) : List Value := un 4 (t4.v :: un 28 [])
def cu9bei_1_2 : ACode := .seq (.region [oI 4 (.mv (.c (.slice none 0 0)))] []) (.ret)
abbrev u9beit1 (R : Type) := AH → Option R
def u9beis1 : List Value := un 33 []
abbrev u9beit2 (R : Type) := Int → Addr → Int → AH → Option R
def u9beis2 (t1 : Int) (t2 : Addr) (t5 : Int) : List Value := un 1 (vi t1 :: vp t2 :: un 2 (vi t5 :: un 27 []))
def cu9bei_1_b_3 : ACode := .region [oI 10 (.mv (.t 5)), oI 11 (.bin .add .i64 (.t 10) (ci 1)), oI 5 (.mv (.t 11))] [10, 11]
def gcu9bei_1_b (cn : ACode) : ACode := .seq (.seq (.region [oI 7 (.mv (.t 5)), oI 8 (.mv (.t 1)), oI 9 (.cmp .lss .i64 (.t 7) (.t 8))] [7, 8]) (.seq (.cond (.t 9) (.region [] [9]) (.seq (.region [] [1, 2, 5, 9]) (.exit 0))) (.block 1 (.seq (.region [oI 12 (.load (.agg [.int .i64, .int .i64, .slice]) (.t 2)), oI 13 (.mv (.t 1)), oI 14 (.mv (.t 5)), oI 15 (.call (.f 147) [.t 12, .t 13, .t 14] (.one (.one .slice))), oI 6 (.mv (.t 15))] [12, 13, 14, 15]) (.seq (.region [oI 16 (.mv (.t 6)), oI 17 (.len (.t 16)), oI 18 (.mv (.t 1)), oI 19 (.bin .sub .i64 (.t 18) (ci 1)), oI 20 (.cmp .eql .i64 (.t 17) (.t 19)), oI 21 (.mv (.t 20)), .grp 21 true [qJ 22 (.load (.agg [.int .i64, .int .i64, .slice]) (.t 2)), qI 23 (.mv (.t 6)), qI 24 (.mv (.t 1)), qI 25 (.bin .sub .i64 (.t 24) (ci 2)), qI 26 (.iaddr 1 (.t 23) (.t 25)), qJ 27 (.load (.one (.int .i64)) (.t 26)), qI 28 (.mv (.t 5)), qI 29 (.call (.f 148) [.t 22, .t 27, .t 28] (.one (.one (.int .i64)))), qI 30 (.cmp .eql .i64 (.t 29) (ci 1))], oI 31 (.pick (.t 21) (.t 30) (.c (.bool false)))] [16, 17, 18, 19, 20, 21, 22, 23, 24, 25, 26, 27, 28, 29, 30]) (.cond (.t 31) (.seq (.region [oI 32 (.mv (.t 6)), oI 4 (.mv (.t 32))] [1, 2, 5, 6, 31, 32]) (.ret)) (.region [] [6, 31]))))))) cn
def cu9bei_1_b : ACode := gcu9bei_1_b cu9bei_1_b_3
def cu9bei_1 : ACode := .seq (.block 0 (.loop cu9bei_1_b)) cu9bei_1_2
def gcu9bei (cn : ACode) : ACode := .seq (.seq (.region [oI 2 (.box (.t 0)), oI 4 (.mv (.c (.slice none 0 0)))] [0, 4]) (.region [oI 5 (.mv (ci 1))] [])) cn
def cu9bei : ACode := gcu9bei cu9bei_1
abbrev u9beit3 (R : Type) := Int → Int → Sl → Int → AH → Option R
def u9beis3 (t0_0 t0_1 : Int) (t0_2 : Sl) (t1 : Int) : List Value := .agg ⟨[.int .i64 t0_0, .int .i64 t0_1, .slice t0_2.a t0_2.l t0_2.c]⟩ :: vi t1 :: un 31 []
def a_field_generator : AFunc := ⟨33, cu9bei, [.tmp 4]⟩
theorem ok_field_generator : okF Tryz.prog 114 a_field_generator = true := by kernel_rfl
def u9bei_1_2 {R : Type} (C : Callee) (fl k : Nat) (kr : u9beit0 R) : u9beit1 R := fun h => kr ⟨none, 0, 0⟩ h
theorem u9bei_1_2_e {R} (C fl k) (K : KF R) : (cp0 u9beis1 (ce C fl k cu9bei_1_2 K)) = u9bei_1_2 C fl k (cp1 u9beis0 (K .ret)) := by kernel_rfl
def u9bei_1_b_3 {R : Type} (C : Callee) (fl k : Nat) (kn : u9beit2 R) (e0 : u9beit1 R) (kr : u9beit0 R) : u9beit2 R := fun t1 t2 t5 h => kn t1 t2 (w64 (t5 + 1)) h
theorem u9bei_1_b_3_e {R} (C fl k) (K : KF R) : (cp3 u9beis2 (ce C fl k cu9bei_1_b_3 K)) = u9bei_1_b_3 C fl k (cp3 u9beis2 (K .normal)) (cp0 u9beis1 (K (.exit 0))) (cp1 u9beis0 (K .ret)) := by kernel_rfl
def u9bei_1_bF {R : Type} (C : Callee) (fl k : Nat) (kx : u9beit2 R)  (kn : u9beit2 R) (e0 : u9beit1 R) (kr : u9beit0 R) : u9beit2 R := fun t1 t2 t5 h => if decide (t5 < t1) = true then ldI .i64 h t2.block t2.off fun n1 => ldI .i64 h t2.block (t2.off + 1) fun n2 => ldS h t2.block (t2.off + 1 + 1) fun s3 => callF C fl fn.field_powers [.agg ⟨[.int .i64 n1, .int .i64 n2, .slice s3.a s3.l s3.c]⟩, .int .i64 t1, .int .i64 t5] h fun v4 h5 => asSl v4 fun s6 => if (((s6.l : Nat) : Int) == w64 (t1 - 1)) = true then ldI .i64 h5 t2.block t2.off fun n7 => ldI .i64 h5 t2.block (t2.off + 1) fun n8 => ldS h5 t2.block (t2.off + 1 + 1) fun s9 => idx 1 s6 (w64 (t1 - 2)) fun p10 => ldI .i64 h5 p10.block p10.off fun n11 => callF C fl fn.field_multiply [.agg ⟨[.int .i64 n7, .int .i64 n8, .slice s9.a s9.l s9.c]⟩, .int .i64 n11, .int .i64 t5] h5 fun v12 h13 => asInt .i64 v12 fun n14 => if (n14 == 1) = true then kr s6 h13 else kx t1 t2 t5 h13 else kx t1 t2 t5 h5 else e0 h
def u9bei_1_b {R : Type} (C : Callee) (fl k : Nat) (kn : u9beit2 R) (e0 : u9beit1 R) (kr : u9beit0 R) : u9beit2 R := u9bei_1_bF C fl k (u9bei_1_b_3 C fl k kn e0 kr)  kn e0 kr
theorem u9bei_1_b_g {R} (C fl k) (cn : ACode) (K : KF R) : (cp3 u9beis2 (ce C fl k (gcu9bei_1_b cn) K)) = u9bei_1_bF C fl k (cp3 u9beis2 (ce C fl k cn K)) (cp3 u9beis2 (K .normal)) (cp0 u9beis1 (K (.exit 0))) (cp1 u9beis0 (K .ret)) := by kernel_rfl
theorem u9bei_1_b_e {R} (C fl k) (K : KF R) : (cp3 u9beis2 (ce C fl k cu9bei_1_b K)) = u9bei_1_b C fl k (cp3 u9beis2 (K .normal)) (cp0 u9beis1 (K (.exit 0))) (cp1 u9beis0 (K .ret)) := (u9bei_1_b_g C fl k cu9bei_1_b_3 K).trans (congr1 (fun L0 => u9bei_1_bF C fl k L0 (cp3 u9beis2 (K .normal)) (cp0 u9beis1 (K (.exit 0))) (cp1 u9beis0 (K .ret))) (u9bei_1_b_3_e C fl k K))
def u9bei_1_l {R : Type} (C : Callee) (fl k : Nat) (kn : u9beit1 R) (kr : u9beit0 R) : Nat → u9beit2 R
  | 0 => fun _ _ _ _ => none
  | m + 1 => u9bei_1_b C fl k (u9bei_1_l C fl k kn kr m) kn kr
theorem u9bei_1_l_p {R} (C fl k) (K : KF R) : ∀ m, (cp3 u9beis2 (loopK m (kstep C fl k cu9bei_1_b 0 K))) = u9bei_1_l C fl k (cp0 u9beis1 (K .normal)) (cp1 u9beis0 (K .ret)) m
  | 0 => by kernel_rfl
  | m + 1 => (congr1 (fun g => (cp3 u9beis2 (g))) (loop_ce C fl k cu9bei_1_b 0 K m)).trans ((u9bei_1_b_e C fl k _).trans (congr1 (fun L => u9bei_1_b C fl k L (cp0 u9beis1 (K .normal)) (cp1 u9beis0 (K .ret))) (u9bei_1_l_p C fl k K m)))
theorem u9bei_1_l_e {R} (C fl k) (K : KF R) : (cp3 u9beis2 (ce C fl k (.block 0 (.loop cu9bei_1_b)) K)) = u9bei_1_l C fl k (cp0 u9beis1 (K .normal)) (cp1 u9beis0 (K .ret)) k := (congr1 (fun g => (cp3 u9beis2 (g))) (ce_loop C fl k cu9bei_1_b 0 K)).trans (u9bei_1_l_p C fl k K k)
def u9bei_1 {R : Type} (C : Callee) (fl k : Nat) (kr : u9beit0 R) : u9beit2 R := u9bei_1_l C fl k (u9bei_1_2 C fl k kr) kr k
theorem u9bei_1_e {R} (C fl k) (K : KF R) : (cp3 u9beis2 (ce C fl k cu9bei_1 K)) = u9bei_1 C fl k (cp1 u9beis0 (K .ret)) := ((congr1 (fun g => (cp3 u9beis2 (g))) (ce_seq C fl k _ _ K)).trans (u9bei_1_l_e C fl k (kseq C fl k cu9bei_1_2 K))).trans (congr1 (fun L => u9bei_1_l C fl k L (cp1 u9beis0 (K .ret)) k) ((congr1 (fun g => (cp0 u9beis1 (g))) (seq_n C fl k cu9bei_1_2 K)).trans (u9bei_1_2_e C fl k K)))
def u9beiF {R : Type} (C : Callee) (fl k : Nat) (kx : u9beit2 R)  (kr : u9beit0 R) : u9beit3 R := fun t0_0 t0_1 t0_2 t1 h => alc h [.int .i64 t0_0, .int .i64 t0_1, .slice t0_2.a t0_2.l t0_2.c] fun b15 h16 => kx t1 ⟨b15, 0, none⟩ 1 h16
def u9bei {R : Type} (C : Callee) (fl k : Nat) (kr : u9beit0 R) : u9beit3 R := u9beiF C fl k (u9bei_1 C fl k kr)  kr
theorem u9bei_g {R} (C fl k) (cn : ACode) (K : KF R) : (cp4 u9beis3 (ce C fl k (gcu9bei cn) K)) = u9beiF C fl k (cp3 u9beis2 (ce C fl k cn K)) (cp1 u9beis0 (K .ret)) := by kernel_rfl
theorem u9bei_e {R} (C fl k) (K : KF R) : (cp4 u9beis3 (ce C fl k cu9bei K)) = u9bei C fl k (cp1 u9beis0 (K .ret)) := (u9bei_g C fl k cu9bei_1 K).trans (congr1 (fun L0 => u9beiF C fl k L0 (cp1 u9beis0 (K .ret))) (u9bei_1_e C fl k K))
def field_generator (C : Callee) (fl k : Nat) (p0_0 p0_1 : Int) (p0_2 : Sl) (p1 : Int) (h : AH) : Option (Value × AH) := u9bei C fl k (fun y4 q => some (.slice y4.a y4.l y4.c, q)) p0_0 p0_1 p0_2 p1 h
theorem field_generator_run (C fl k) (p0_0 p0_1 : Int) (p0_2 : Sl) (p1 : Int) (h) : runF C fl k a_field_generator [.agg ⟨[.int .i64 p0_0, .int .i64 p0_1, .slice p0_2.a p0_2.l p0_2.c]⟩, .int .i64 p1] h = field_generator C fl k p0_0 p0_1 p0_2 p1 h :=
  (runF_ce C fl k a_field_generator [.agg ⟨[.int .i64 p0_0, .int .i64 p0_1, .slice p0_2.a p0_2.l p0_2.c]⟩, .int .i64 p1] h cu9bei (u9beis3 p0_0 p0_1 p0_2 p1) rfl (by kernel_rfl)).trans ((cp4_ap u9beis3 (ce C fl k cu9bei (finalK a_field_generator.results)) p0_0 p0_1 p0_2 p1 h).symm.trans ((congrFun (congrFun (congrFun (congrFun (congrFun (u9bei_e C fl k (finalK a_field_generator.results)) p0_0) p0_1) p0_2) p1) h).trans (show u9bei C fl k (cp1 u9beis0 ((finalK a_field_generator.results) .ret)) p0_0 p0_1 p0_2 p1 h = field_generator C fl k p0_0 p0_1 p0_2 p1 h by kernel_rfl)))
def d_field_generator (C : Callee) (fl k : Nat) (args : List Value) (h : AH) : Option (Value × AH) := match args with
  | [.agg ⟨[.int .i64 n1, .int .i64 n2, .slice n3a n3l n3c]⟩, .int .i64 n4] => field_generator C fl k n1 n2 ⟨n3a, n3l, n3c⟩ n4 h
  | _ => none
theorem d_field_generator_run {C : Callee} {fl k : Nat} {args : List Value} {h : AH} {r : Value × AH} (e : d_field_generator C fl k args h = some r) : runF C fl k a_field_generator args h = some r := by
  unfold d_field_generator at e
  split at e
  · rename_i n1 n2 n3a n3l n3c n4; exact (field_generator_run C fl k n1 n2 ⟨n3a, n3l, n3c⟩ n4 h).trans e
  · cases e
abbrev u0t6ht0 (R : Type) := Int → AH → Option R
def u0t6hs0 (t4 : Int) : List Value := un 4 (vi t4 :: un 14 [])
def cu0t6h_1_2 : ACode := .seq (.region [oI 4 (.mv (ci (-1)))] []) (.ret)
abbrev u0t6ht1 (R : Type) := AH → Option R
def u0t6hs1 : List Value := un 19 []
abbrev u0t6ht2 (R : Type) := Sl → Value → Int → Int → AH → Option R
def u0t6hs2 (t0 : Sl) (t1 : Value) (t7 t8 : Int) : List Value := t0.v :: t1 :: un 5 (vi t7 :: vi t8 :: un 10 [])
def cu0t6h_1_b : ACode := .seq (.region [oI 9 (.cmp .lss .i64 (.t 8) (.t 7))] []) (.seq (.cond (.t 9) (.region [] [9]) (.seq (.region [] [0, 1, 7, 8, 9]) (.exit 0))) (.seq (.block 1 (.seq (.region [oI 10 (.mv (.t 8)), oI 5 (.mv (.t 10))] [10]) (.seq (.region [oI 11 (.mv (.t 1)), oI 12 (.mv (.t 0)), oI 13 (.mv (.t 5)), oI 14 (.iaddr 1 (.t 12) (.t 13)), oI 15 (.load (.one .slice) (.t 14)), oI 16 (.call (.t 11) [.t 15] (.one (.one .bool)))] [11, 12, 13, 14, 15]) (.cond (.t 16) (.seq (.region [oI 17 (.mv (.t 5)), oI 4 (.mv (.t 17))] [0, 1, 5, 7, 8, 16, 17]) (.ret)) (.region [] [5, 16]))))) (.region [oI 18 (.bin .add .i64 (.t 8) (ci 1)), oI 8 (.mv (.t 18))] [18])))
def cu0t6h_1 : ACode := .seq (.block 0 (.loop cu0t6h_1_b)) cu0t6h_1_2
def gcu0t6h (cn : ACode) : ACode := .seq (.seq (.region [oI 4 (.mv (ci 0))] [4]) (.region [oI 6 (.mv (.t 0)), oI 7 (.len (.t 6)), oI 8 (.mv (ci 0))] [6])) cn
def cu0t6h : ACode := gcu0t6h cu0t6h_1
abbrev u0t6ht3 (R : Type) := Sl → Value → AH → Option R
def u0t6hs3 (t0 : Sl) (t1 : Value) : List Value := t0.v :: t1 :: un 17 []
def a_slices_IndexFunc_115 : AFunc := ⟨19, cu0t6h, [.tmp 4]⟩
theorem ok_slices_IndexFunc_115 : okF Tryz.prog 115 a_slices_IndexFunc_115 = true := by kernel_rfl
def u0t6h_1_2 {R : Type} (C : Callee) (fl k : Nat) (kr : u0t6ht0 R) : u0t6ht1 R := fun h => kr (-1) h
theorem u0t6h_1_2_e {R} (C fl k) (K : KF R) : (cp0 u0t6hs1 (ce C fl k cu0t6h_1_2 K)) = u0t6h_1_2 C fl k (cp1 u0t6hs0 (K .ret)) := by kernel_rfl
def u0t6h_1_b {R : Type} (C : Callee) (fl k : Nat) (kn : u0t6ht2 R) (e0 : u0t6ht1 R) (kr : u0t6ht0 R) : u0t6ht2 R := fun t0 t1 t7 t8 h => if decide (t8 < t7) = true then idx 1 t0 t8 fun p1 => ldS h p1.block p1.off fun s2 => callV C fl t1 [.slice s2.a s2.l s2.c] h fun v3 h4 => asBool v3 fun b5 => if b5 = true then kr t8 h4 else kn t0 t1 t7 (w64 (t8 + 1)) h4 else e0 h
theorem u0t6h_1_b_e {R} (C fl k) (K : KF R) : (cp4 u0t6hs2 (ce C fl k cu0t6h_1_b K)) = u0t6h_1_b C fl k (cp4 u0t6hs2 (K .normal)) (cp0 u0t6hs1 (K (.exit 0))) (cp1 u0t6hs0 (K .ret)) := by kernel_rfl
def u0t6h_1_l {R : Type} (C : Callee) (fl k : Nat) (kn : u0t6ht1 R) (kr : u0t6ht0 R) : Nat → u0t6ht2 R
  | 0 => fun _ _ _ _ _ => none
  | m + 1 => u0t6h_1_b C fl k (u0t6h_1_l C fl k kn kr m) kn kr
theorem u0t6h_1_l_p {R} (C fl k) (K : KF R) : ∀ m, (cp4 u0t6hs2 (loopK m (kstep C fl k cu0t6h_1_b 0 K))) = u0t6h_1_l C fl k (cp0 u0t6hs1 (K .normal)) (cp1 u0t6hs0 (K .ret)) m
  | 0 => by kernel_rfl
  | m + 1 => (congr1 (fun g => (cp4 u0t6hs2 (g))) (loop_ce C fl k cu0t6h_1_b 0 K m)).trans ((u0t6h_1_b_e C fl k _).trans (congr1 (fun L => u0t6h_1_b C fl k L (cp0 u0t6hs1 (K .normal)) (cp1 u0t6hs0 (K .ret))) (u0t6h_1_l_p C fl k K m)))
theorem u0t6h_1_l_e {R} (C fl k) (K : KF R) : (cp4 u0t6hs2 (ce C fl k (.block 0 (.loop cu0t6h_1_b)) K)) = u0t6h_1_l C fl k (cp0 u0t6hs1 (K .normal)) (cp1 u0t6hs0 (K .ret)) k := (congr1 (fun g => (cp4 u0t6hs2 (g))) (ce_loop C fl k cu0t6h_1_b 0 K)).trans (u0t6h_1_l_p C fl k K k)
def u0t6h_1 {R : Type} (C : Callee) (fl k : Nat) (kr : u0t6ht0 R) : u0t6ht2 R := u0t6h_1_l C fl k (u0t6h_1_2 C fl k kr) kr k
theorem u0t6h_1_e {R} (C fl k) (K : KF R) : (cp4 u0t6hs2 (ce C fl k cu0t6h_1 K)) = u0t6h_1 C fl k (cp1 u0t6hs0 (K .ret)) := ((congr1 (fun g => (cp4 u0t6hs2 (g))) (ce_seq C fl k _ _ K)).trans (u0t6h_1_l_e C fl k (kseq C fl k cu0t6h_1_2 K))).trans (congr1 (fun L => u0t6h_1_l C fl k L (cp1 u0t6hs0 (K .ret)) k) ((congr1 (fun g => (cp0 u0t6hs1 (g))) (seq_n C fl k cu0t6h_1_2 K)).trans (u0t6h_1_2_e C fl k K)))
def u0t6hF {R : Type} (C : Callee) (fl k : Nat) (kx : u0t6ht2 R)  (kr : u0t6ht0 R) : u0t6ht3 R := fun t0 t1 h => kx t0 t1 ((t0.l : Nat) : Int) 0 h
def u0t6h {R : Type} (C : Callee) (fl k : Nat) (kr : u0t6ht0 R) : u0t6ht3 R := u0t6hF C fl k (u0t6h_1 C fl k kr)  kr
theorem u0t6h_g {R} (C fl k) (cn : ACode) (K : KF R) : (cp2 u0t6hs3 (ce C fl k (gcu0t6h cn) K)) = u0t6hF C fl k (cp4 u0t6hs2 (ce C fl k cn K)) (cp1 u0t6hs0 (K .ret)) := by kernel_rfl
theorem u0t6h_e {R} (C fl k) (K : KF R) : (cp2 u0t6hs3 (ce C fl k cu0t6h K)) = u0t6h C fl k (cp1 u0t6hs0 (K .ret)) := (u0t6h_g C fl k cu0t6h_1 K).trans (congr1 (fun L0 => u0t6hF C fl k L0 (cp1 u0t6hs0 (K .ret))) (u0t6h_1_e C fl k K))
def slices_IndexFunc_115 (C : Callee) (fl k : Nat) (p0 : Sl) (p1 : Value) (h : AH) : Option (Value × AH) := u0t6h C fl k (fun y4 q => some (.int .i64 y4, q)) p0 p1 h
theorem slices_IndexFunc_115_run (C fl k) (p0 : Sl) (p1 : Value) (h) : runF C fl k a_slices_IndexFunc_115 [.slice p0.a p0.l p0.c, p1] h = slices_IndexFunc_115 C fl k p0 p1 h :=
  (runF_ce C fl k a_slices_IndexFunc_115 [.slice p0.a p0.l p0.c, p1] h cu0t6h (u0t6hs3 p0 p1) rfl (by kernel_rfl)).trans ((cp2_ap u0t6hs3 (ce C fl k cu0t6h (finalK a_slices_IndexFunc_115.results)) p0 p1 h).symm.trans ((congrFun (congrFun (congrFun (u0t6h_e C fl k (finalK a_slices_IndexFunc_115.results)) p0) p1) h).trans (show u0t6h C fl k (cp1 u0t6hs0 ((finalK a_slices_IndexFunc_115.results) .ret)) p0 p1 h = slices_IndexFunc_115 C fl k p0 p1 h by kernel_rfl)))
def d_slices_IndexFunc_115 (C : Callee) (fl k : Nat) (args : List Value) (h : AH) : Option (Value × AH) := match args with
  | [.slice n0a n0l n0c, n1] => slices_IndexFunc_115 C fl k ⟨n0a, n0l, n0c⟩ n1 h
  | _ => none
theorem d_slices_IndexFunc_115_run {C : Callee} {fl k : Nat} {args : List Value} {h : AH} {r : Value × AH} (e : d_slices_IndexFunc_115 C fl k args h = some r) : runF C fl k a_slices_IndexFunc_115 args h = some r := by
  unfold d_slices_IndexFunc_115 at e
  split at e
  · rename_i n0a n0l n0c n1; exact (slices_IndexFunc_115_run C fl k ⟨n0a, n0l, n0c⟩ n1 h).trans e
  · cases e
abbrev u5oopt0 (R : Type) := Bool → AH → Option R
def u5oops0 (t3 : Bool) : List Value := un 3 (.bool t3 :: un 5 [])
def cu5oop : ACode := .seq (.region [oI 3 (.mv (.c (.bool false)))] [3]) (.seq (.region [oI 4 (.mv (.t 0)), oI 5 (.load (.one (.int .i64)) (.t 1)), oI 6 (.iaddr 1 (.t 4) (.t 5)), oI 7 (.load (.one (.int .i64)) (.t 6)), oI 8 (.cmp .neq .i64 (.t 7) (ci 0)), oI 3 (.mv (.t 8))] [0, 1, 4, 5, 6, 7, 8]) (.ret))
abbrev u5oopt1 (R : Type) := Sl → Addr → AH → Option R
def u5oops1 (t0 : Sl) (t1 : Addr) : List Value := t0.v :: vp t1 :: un 7 []
def a_hierarchy_without_1 : AFunc := ⟨9, cu5oop, [.tmp 3]⟩
theorem ok_hierarchy_without_1 : okF Tryz.prog 116 a_hierarchy_without_1 = true := by kernel_rfl
def u5oop {R : Type} (C : Callee) (fl k : Nat) (kr : u5oopt0 R) : u5oopt1 R := fun t0 t1 h => ldI .i64 h t1.block t1.off fun n1 => idx 1 t0 n1 fun p2 => ldI .i64 h p2.block p2.off fun n3 => kr (n3 != 0) h
theorem u5oop_e {R} (C fl k) (K : KF R) : (cp2 u5oops1 (ce C fl k cu5oop K)) = u5oop C fl k (cp1 u5oops0 (K .ret)) := by kernel_rfl
def hierarchy_without_1 (C : Callee) (fl k : Nat) (p0 : Sl) (p1 : Addr) (h : AH) : Option (Value × AH) := u5oop C fl k (fun y3 q => some (.bool y3, q)) p0 p1 h
theorem hierarchy_without_1_run (C fl k) (p0 : Sl) (p1 : Addr) (h) : runF C fl k a_hierarchy_without_1 [.slice p0.a p0.l p0.c, .pointer (some p1)] h = hierarchy_without_1 C fl k p0 p1 h :=
  (runF_ce C fl k a_hierarchy_without_1 [.slice p0.a p0.l p0.c, .pointer (some p1)] h cu5oop (u5oops1 p0 p1) rfl (by kernel_rfl)).trans ((cp2_ap u5oops1 (ce C fl k cu5oop (finalK a_hierarchy_without_1.results)) p0 p1 h).symm.trans ((congrFun (congrFun (congrFun (u5oop_e C fl k (finalK a_hierarchy_without_1.results)) p0) p1) h).trans (show u5oop C fl k (cp1 u5oops0 ((finalK a_hierarchy_without_1.results) .ret)) p0 p1 h = hierarchy_without_1 C fl k p0 p1 h by kernel_rfl)))
def d_hierarchy_without_1 (C : Callee) (fl k : Nat) (args : List Value) (h : AH) : Option (Value × AH) := match args with
  | [.slice n0a n0l n0c, .pointer (some n1)] => hierarchy_without_1 C fl k ⟨n0a, n0l, n0c⟩ n1 h
  | _ => none
theorem d_hierarchy_without_1_run {C : Callee} {fl k : Nat} {args : List Value} {h : AH} {r : Value × AH} (e : d_hierarchy_without_1 C fl k args h = some r) : runF C fl k a_hierarchy_without_1 args h = some r := by
  unfold d_hierarchy_without_1 at e
  split at e
  · rename_i n0a n0l n0c n1; exact (hierarchy_without_1_run C fl k ⟨n0a, n0l, n0c⟩ n1 h).trans e
  · cases e
abbrev uwz2rt0 (R : Type) := Int → Int → AH → Option R
def uwz2rs0 (t6 t7 : Int) : List Value := un 6 (vi t6 :: vi t7 :: un 15 [])
def cuwz2r : ACode := .seq (.region [oI 6 (.mv (ci 0)), oI 7 (.mv (ci 0))] [6, 7]) (.seq (.region [oI 11 (.mv (.t 0)), oI 12 (.mv (.t 2)), oI 13 (.call (.f 139) [.t 11, .t 12] (.tup [.one (.int .i64), .one (.int .i64)])), oI 10 (.mv (.t 13)), oI 14 (.extr (.t 10) 0), oI 15 (.extr (.t 10) 1), oI 8 (.mv (.t 14)), oI 9 (.mv (.t 15))] [2, 10, 11, 12, 13, 14, 15]) (.seq (.region [oI 16 (.mv (.t 9)), oI 17 (.cmp .neq .i64 (.t 16) (ci 0))] [16]) (.seq (.cond (.t 17) (.seq (.region [oI 18 (.mv (.t 9)), oI 6 (.mv (ci 0)), oI 7 (.mv (.t 18))] [0, 1, 8, 9, 17, 18]) (.ret)) (.region [] [9, 17])) (.seq (.region [oI 19 (.mv (.t 0)), oI 20 (.mv (.t 1)), oI 21 (.mv (.t 8)), oI 22 (.call (.f 120) [.t 19, .t 20, .t 21] (.one (.one (.int .i64)))), oI 6 (.mv (.t 22)), oI 7 (.mv (ci 0))] [0, 1, 8, 19, 20, 21, 22]) (.ret)))))
abbrev uwz2rt1 (R : Type) := OA → Int → Int → AH → Option R
def uwz2rs1 (t0 : OA) (t1 t2 : Int) : List Value := vn t0 :: vi t1 :: vi t2 :: un 20 []
def a_field_GF_Div : AFunc := ⟨23, cuwz2r, [.tmp 6, .tmp 7]⟩
theorem ok_field_GF_Div : okF Tryz.prog 117 a_field_GF_Div = true := by kernel_rfl
def uwz2r {R : Type} (C : Callee) (fl k : Nat) (kr : uwz2rt0 R) : uwz2rt1 R := fun t0 t1 t2 h => callF C fl fn.field_GF_Inv [.pointer t0, .int .i64 t2] h fun v1 h2 => asTup v1 fun l3 => ucons l3 fun v4 l5 => asInt .i64 v4 fun n6 => ucons l5 fun v7 l8 => asInt .i64 v7 fun n9 => unil l8 (if (n9 != 0) = true then kr 0 n9 h2 else callF C fl fn.field_GF_Mul [.pointer t0, .int .i64 t1, .int .i64 n6] h2 fun v10 h11 => asInt .i64 v10 fun n12 => kr n12 0 h11)
theorem uwz2r_e {R} (C fl k) (K : KF R) : (cp3 uwz2rs1 (ce C fl k cuwz2r K)) = uwz2r C fl k (cp2 uwz2rs0 (K .ret)) := by kernel_rfl
def field_GF_Div (C : Callee) (fl k : Nat) (p0 : OA) (p1 p2 : Int) (h : AH) : Option (Value × AH) := uwz2r C fl k (fun y6 y7 q => some (.tuple ⟨[.int .i64 y6, .int .i64 y7]⟩, q)) p0 p1 p2 h
theorem field_GF_Div_run (C fl k) (p0 : OA) (p1 p2 : Int) (h) : runF C fl k a_field_GF_Div [.pointer p0, .int .i64 p1, .int .i64 p2] h = field_GF_Div C fl k p0 p1 p2 h :=
  (runF_ce C fl k a_field_GF_Div [.pointer p0, .int .i64 p1, .int .i64 p2] h cuwz2r (uwz2rs1 p0 p1 p2) rfl (by kernel_rfl)).trans ((cp3_ap uwz2rs1 (ce C fl k cuwz2r (finalK a_field_GF_Div.results)) p0 p1 p2 h).symm.trans ((congrFun (congrFun (congrFun (congrFun (uwz2r_e C fl k (finalK a_field_GF_Div.results)) p0) p1) p2) h).trans (show uwz2r C fl k (cp2 uwz2rs0 ((finalK a_field_GF_Div.results) .ret)) p0 p1 p2 h = field_GF_Div C fl k p0 p1 p2 h by kernel_rfl)))
def d_field_GF_Div (C : Callee) (fl k : Nat) (args : List Value) (h : AH) : Option (Value × AH) := match args with
  | [.pointer n0, .int .i64 n1, .int .i64 n2] => field_GF_Div C fl k n0 n1 n2 h
  | _ => none
theorem d_field_GF_Div_run {C : Callee} {fl k : Nat} {args : List Value} {h : AH} {r : Value × AH} (e : d_field_GF_Div C fl k args h = some r) : runF C fl k a_field_GF_Div args h = some r := by
  unfold d_field_GF_Div at e
  split at e
  · rename_i n0 n1 n2; exact (field_GF_Div_run C fl k n0 n1 n2 h).trans e
  · cases e
abbrev ueb45t0 (R : Type) := Sl → AH → Option R
def ueb45s0 (t2 : Sl) : List Value := un 2 (t2.v :: un 5 [])
def cueb45 : ACode := .seq (.region [oI 2 (.mv (.c (.slice none 0 0)))] [2]) (.seq (.region [oI 3 (.mv (.t 0)), oI 4 (.snil false (.t 3))] [3]) (.seq (.cond (.t 4) (.seq (.region [oI 2 (.mv (.c (.slice none 0 0)))] [0, 4]) (.ret)) (.region [] [4])) (.seq (.region [oI 5 (.bslice 0 [] []), oI 6 (.mv (.t 0)), oI 7 (.append 1 8 (.t 5) (.t 6)), oI 2 (.mv (.t 7))] [0, 5, 6, 7]) (.ret))))
abbrev ueb45t1 (R : Type) := Sl → AH → Option R
def ueb45s1 (t0 : Sl) : List Value := t0.v :: un 7 []
def a_slices_Clone : AFunc := ⟨8, cueb45, [.tmp 2]⟩
theorem ok_slices_Clone : okF Tryz.prog 118 a_slices_Clone = true := by kernel_rfl
def ueb45 {R : Type} (C : Callee) (fl k : Nat) (kr : ueb45t0 R) : ueb45t1 R := fun t0 h => if t0.a.isNone = true then kr ⟨none, 0, 0⟩ h else alc h [] fun b1 h2 => apnd fl 1 8 ⟨(some ⟨b1, 0, none⟩), 0, 0⟩ t0 h2 fun s3 h4 => kr s3 h4
theorem ueb45_e {R} (C fl k) (K : KF R) : (cp1 ueb45s1 (ce C fl k cueb45 K)) = ueb45 C fl k (cp1 ueb45s0 (K .ret)) := by kernel_rfl
def slices_Clone (C : Callee) (fl k : Nat) (p0 : Sl) (h : AH) : Option (Value × AH) := ueb45 C fl k (fun y2 q => some (.slice y2.a y2.l y2.c, q)) p0 h
theorem slices_Clone_run (C fl k) (p0 : Sl) (h) : runF C fl k a_slices_Clone [.slice p0.a p0.l p0.c] h = slices_Clone C fl k p0 h :=
  (runF_ce C fl k a_slices_Clone [.slice p0.a p0.l p0.c] h cueb45 (ueb45s1 p0) rfl (by kernel_rfl)).trans ((cp1_ap ueb45s1 (ce C fl k cueb45 (finalK a_slices_Clone.results)) p0 h).symm.trans ((congrFun (congrFun (ueb45_e C fl k (finalK a_slices_Clone.results)) p0) h).trans (show ueb45 C fl k (cp1 ueb45s0 ((finalK a_slices_Clone.results) .ret)) p0 h = slices_Clone C fl k p0 h by kernel_rfl)))
def d_slices_Clone (C : Callee) (fl k : Nat) (args : List Value) (h : AH) : Option (Value × AH) := match args with
  | [.slice n0a n0l n0c] => slices_Clone C fl k ⟨n0a, n0l, n0c⟩ h
  | _ => none
theorem d_slices_Clone_run {C : Callee} {fl k : Nat} {args : List Value} {h : AH} {r : Value × AH} (e : d_slices_Clone C fl k args h = some r) : runF C fl k a_slices_Clone args h = some r := by
  unfold d_slices_Clone at e
  split at e
  · rename_i n0a n0l n0c; exact (slices_Clone_run C fl k ⟨n0a, n0l, n0c⟩ h).trans e
  · cases e
abbrev ueybqt0 (R : Type) := Int → AH → Option R
def ueybqs0 (t6 : Int) : List Value := un 6 (vi t6 :: un 6 [])
def cueybq : ACode := .seq (.region [oI 6 (.mv (ci 0))] [6]) (.seq (.region [oI 7 (.mv (.t 0)), oI 8 (.mv (.t 1)), oI 9 (.mv (.t 0)), oI 10 (.mv (.t 2)), oI 11 (.call (.f 104) [.t 9, .t 10] (.one (.one (.int .i64)))), oI 12 (.call (.f 149) [.t 7, .t 8, .t 11] (.one (.one (.int .i64)))), oI 6 (.mv (.t 12))] [0, 1, 2, 7, 8, 9, 10, 11, 12]) (.ret))
abbrev ueybqt1 (R : Type) := OA → Int → Int → AH → Option R
def ueybqs1 (t0 : OA) (t1 t2 : Int) : List Value := vn t0 :: vi t1 :: vi t2 :: un 10 []
def a_field_GF_Sub : AFunc := ⟨13, cueybq, [.tmp 6]⟩
theorem ok_field_GF_Sub : okF Tryz.prog 119 a_field_GF_Sub = true := by kernel_rfl
def ueybq {R : Type} (C : Callee) (fl k : Nat) (kr : ueybqt0 R) : ueybqt1 R := fun t0 t1 t2 h => callF C fl fn.field_GF_Neg [.pointer t0, .int .i64 t2] h fun v1 h2 => asInt .i64 v1 fun n3 => callF C fl fn.field_GF_Add [.pointer t0, .int .i64 t1, .int .i64 n3] h2 fun v4 h5 => asInt .i64 v4 fun n6 => kr n6 h5
theorem ueybq_e {R} (C fl k) (K : KF R) : (cp3 ueybqs1 (ce C fl k cueybq K)) = ueybq C fl k (cp1 ueybqs0 (K .ret)) := by kernel_rfl
def field_GF_Sub (C : Callee) (fl k : Nat) (p0 : OA) (p1 p2 : Int) (h : AH) : Option (Value × AH) := ueybq C fl k (fun y6 q => some (.int .i64 y6, q)) p0 p1 p2 h
theorem field_GF_Sub_run (C fl k) (p0 : OA) (p1 p2 : Int) (h) : runF C fl k a_field_GF_Sub [.pointer p0, .int .i64 p1, .int .i64 p2] h = field_GF_Sub C fl k p0 p1 p2 h :=
  (runF_ce C fl k a_field_GF_Sub [.pointer p0, .int .i64 p1, .int .i64 p2] h cueybq (ueybqs1 p0 p1 p2) rfl (by kernel_rfl)).trans ((cp3_ap ueybqs1 (ce C fl k cueybq (finalK a_field_GF_Sub.results)) p0 p1 p2 h).symm.trans ((congrFun (congrFun (congrFun (congrFun (ueybq_e C fl k (finalK a_field_GF_Sub.results)) p0) p1) p2) h).trans (show ueybq C fl k (cp1 ueybqs0 ((finalK a_field_GF_Sub.results) .ret)) p0 p1 p2 h = field_GF_Sub C fl k p0 p1 p2 h by kernel_rfl)))
def d_field_GF_Sub (C : Callee) (fl k : Nat) (args : List Value) (h : AH) : Option (Value × AH) := match args with
  | [.pointer n0, .int .i64 n1, .int .i64 n2] => field_GF_Sub C fl k n0 n1 n2 h
  | _ => none
theorem d_field_GF_Sub_run {C : Callee} {fl k : Nat} {args : List Value} {h : AH} {r : Value × AH} (e : d_field_GF_Sub C fl k args h = some r) : runF C fl k a_field_GF_Sub args h = some r := by
  unfold d_field_GF_Sub at e
  split at e
  · rename_i n0 n1 n2; exact (field_GF_Sub_run C fl k n0 n1 n2 h).trans e
  · cases e
abbrev uh7azt0 (R : Type) := Int → AH → Option R
def uh7azs0 (t6 : Int) : List Value := un 6 (vi t6 :: un 39 [])
def cuh7az : ACode := .seq (.region [oI 6 (.mv (ci 0))] [6]) (.seq (.region [oI 7 (.mv (.t 0)), oI 8 (.mv (.t 1)), oI 9 (.call (.f 144) [.t 7, .t 8] (.one (.one (.int .i64)))), oI 10 (.mv (.t 0)), oI 11 (.mv (.t 2)), oI 12 (.call (.f 144) [.t 10, .t 11] (.one (.one (.int .i64)))), oI 1 (.mv (.t 9)), oI 2 (.mv (.t 12))] [7, 8, 9, 10, 11, 12]) (.seq (.region [oI 13 (.mv (.t 1)), oI 14 (.cmp .eql .i64 (.t 13) (ci 0)), oI 15 (.mv (.t 14)), .grp 15 false [qI 16 (.mv (.t 2)), qI 17 (.cmp .eql .i64 (.t 16) (ci 0))], oI 18 (.pick (.t 15) (.c (.bool true)) (.t 17))] [13, 14, 15, 16, 17]) (.seq (.cond (.t 18) (.seq (.region [oI 6 (.mv (ci 0))] [0, 1, 2, 18]) (.ret)) (.region [] [18])) (.seq (.region [oI 19 (.mv (.t 0)), oI 20 (.nilc (.t 19)), oI 21 (.faddr 4 (.t 20)), oJ 22 (.load (.one .slice) (.t 21)), oI 23 (.mv (.t 0)), oI 24 (.nilc (.t 23)), oI 25 (.faddr 5 (.t 24)), oJ 26 (.load (.one .slice) (.t 25)), oI 27 (.mv (.t 1)), oI 28 (.iaddr 1 (.t 26) (.t 27)), oJ 29 (.load (.one (.int .i64)) (.t 28)), oI 30 (.mv (.t 0)), oI 31 (.nilc (.t 30)), oI 32 (.faddr 5 (.t 31)), oJ 33 (.load (.one .slice) (.t 32)), oI 34 (.mv (.t 2)), oI 35 (.iaddr 1 (.t 33) (.t 34)), oJ 36 (.load (.one (.int .i64)) (.t 35)), oI 37 (.bin .add .i64 (.t 29) (.t 36)), oI 38 (.mv (.t 0)), oI 39 (.nilc (.t 38)), oI 40 (.faddr 3 (.t 39)), oJ 41 (.load (.one (.int .i64)) (.t 40)), oI 42 (.bin .sub .i64 (.t 41) (ci 1)), oI 43 (.bin .rem .i64 (.t 37) (.t 42)), oI 44 (.iaddr 1 (.t 22) (.t 43)), oI 45 (.load (.one (.int .i64)) (.t 44)), oI 6 (.mv (.t 45))] [0, 1, 2, 19, 20, 21, 22, 23, 24, 25, 26, 27, 28, 29, 30, 31, 32, 33, 34, 35, 36, 37, 38, 39, 40, 41, 42, 43, 44, 45]) (.ret)))))
abbrev uh7azt1 (R : Type) := OA → Int → Int → AH → Option R
def uh7azs1 (t0 : OA) (t1 t2 : Int) : List Value := vn t0 :: vi t1 :: vi t2 :: un 43 []
def a_field_GF_Mul : AFunc := ⟨46, cuh7az, [.tmp 6]⟩
theorem ok_field_GF_Mul : okF Tryz.prog 120 a_field_GF_Mul = true := by kernel_rfl
def uh7az {R : Type} (C : Callee) (fl k : Nat) (kr : uh7azt0 R) : uh7azt1 R := fun t0 t1 t2 h => callF C fl fn.field_GF_in [.pointer t0, .int .i64 t1] h fun v1 h2 => asInt .i64 v1 fun n3 => callF C fl fn.field_GF_in [.pointer t0, .int .i64 t2] h2 fun v4 h5 => asInt .i64 v4 fun n6 => if (n3 == 0) = false then if (n6 == 0) = true then kr 0 h5 else asPtr (.pointer t0) fun p7 => ldS h5 p7.block (p7.off + 4) fun s8 => asPtr (.pointer t0) fun p9 => ldS h5 p9.block (p9.off + 5) fun s10 => idx 1 s10 n3 fun p11 => ldI .i64 h5 p11.block p11.off fun n12 => asPtr (.pointer t0) fun p13 => ldS h5 p13.block (p13.off + 5) fun s14 => idx 1 s14 n6 fun p15 => ldI .i64 h5 p15.block p15.off fun n16 => asPtr (.pointer t0) fun p17 => ldI .i64 h5 p17.block (p17.off + 3) fun n18 => binQ .rem .i64 (w64 (n12 + n16)) (w64 (n18 - 1)) fun n19 => idx 1 s8 n19 fun p20 => ldI .i64 h5 p20.block p20.off fun n21 => kr n21 h5 else kr 0 h5
theorem uh7az_e {R} (C fl k) (K : KF R) : (cp3 uh7azs1 (ce C fl k cuh7az K)) = uh7az C fl k (cp1 uh7azs0 (K .ret)) := by kernel_rfl
def field_GF_Mul (C : Callee) (fl k : Nat) (p0 : OA) (p1 p2 : Int) (h : AH) : Option (Value × AH) := uh7az C fl k (fun y6 q => some (.int .i64 y6, q)) p0 p1 p2 h
theorem field_GF_Mul_run (C fl k) (p0 : OA) (p1 p2 : Int) (h) : runF C fl k a_field_GF_Mul [.pointer p0, .int .i64 p1, .int .i64 p2] h = field_GF_Mul C fl k p0 p1 p2 h :=
  (runF_ce C fl k a_field_GF_Mul [.pointer p0, .int .i64 p1, .int .i64 p2] h cuh7az (uh7azs1 p0 p1 p2) rfl (by kernel_rfl)).trans ((cp3_ap uh7azs1 (ce C fl k cuh7az (finalK a_field_GF_Mul.results)) p0 p1 p2 h).symm.trans ((congrFun (congrFun (congrFun (congrFun (uh7az_e C fl k (finalK a_field_GF_Mul.results)) p0) p1) p2) h).trans (show uh7az C fl k (cp1 uh7azs0 ((finalK a_field_GF_Mul.results) .ret)) p0 p1 p2 h = field_GF_Mul C fl k p0 p1 p2 h by kernel_rfl)))
def d_field_GF_Mul (C : Callee) (fl k : Nat) (args : List Value) (h : AH) : Option (Value × AH) := match args with
  | [.pointer n0, .int .i64 n1, .int .i64 n2] => field_GF_Mul C fl k n0 n1 n2 h
  | _ => none
theorem d_field_GF_Mul_run {C : Callee} {fl k : Nat} {args : List Value} {h : AH} {r : Value × AH} (e : d_field_GF_Mul C fl k args h = some r) : runF C fl k a_field_GF_Mul args h = some r := by
  unfold d_field_GF_Mul at e
  split at e
  · rename_i n0 n1 n2; exact (field_GF_Mul_run C fl k n0 n1 n2 h).trans e
  · cases e
abbrev u7zift0 (R : Type) := Bool → AH → Option R
def u7zifs0 (t6 : Bool) : List Value := un 6 (.bool t6 :: un 25 [])
def cu7zif_1_2 : ACode := .seq (.region [oI 6 (.mv (.c (.bool true)))] []) (.ret)
abbrev u7zift1 (R : Type) := AH → Option R
def u7zifs1 : List Value := un 32 []
abbrev u7zift2 (R : Type) := Sl → Value → Sl → Int → Int → AH → Option R
def u7zifs2 (t1 : Sl) (t2 : Value) (t15 : Sl) (t16 t17 : Int) : List Value := un 1 (t1.v :: t2 :: un 12 (t15.v :: vi t16 :: vi t17 :: un 14 []))
def cu7zif_1_b : ACode := .seq (.region [oI 18 (.cmp .lss .i64 (.t 17) (.t 16))] []) (.seq (.cond (.t 18) (.region [] [18]) (.seq (.region [] [1, 2, 15, 16, 17, 18]) (.exit 0))) (.seq (.block 1 (.seq (.region [oI 19 (.mv (.t 17)), oI 20 (.iaddr 1 (.t 15) (.t 17)), oI 21 (.load (.one .slice) (.t 20)), oI 7 (.mv (.t 19)), oI 8 (.mv (.t 21))] [19, 20, 21]) (.seq (.region [oI 22 (.mv (.t 1)), oI 23 (.mv (.t 7)), oI 24 (.iaddr 1 (.t 22) (.t 23)), oI 25 (.load (.one .slice) (.t 24)), oI 9 (.mv (.t 25))] [7, 22, 23, 24, 25]) (.seq (.region [oI 26 (.mv (.t 2)), oI 27 (.mv (.t 8)), oI 28 (.mv (.t 9)), oI 29 (.call (.t 26) [.t 27, .t 28] (.one (.one .bool))), oI 30 (.not (.t 29))] [8, 9, 26, 27, 28, 29]) (.cond (.t 30) (.seq (.region [oI 6 (.mv (.c (.bool false)))] [1, 2, 15, 16, 17, 30]) (.ret)) (.region [] [30])))))) (.region [oI 31 (.bin .add .i64 (.t 17) (ci 1)), oI 17 (.mv (.t 31))] [31])))
def cu7zif_1 : ACode := .seq (.block 0 (.loop cu7zif_1_b)) cu7zif_1_2
def gcu7zif (cn : ACode) : ACode := .seq (.seq (.region [oI 6 (.mv (.c (.bool false)))] [6]) (.seq (.region [oI 10 (.mv (.t 0)), oI 11 (.len (.t 10)), oI 12 (.mv (.t 1)), oI 13 (.len (.t 12)), oI 14 (.cmp .neq .i64 (.t 11) (.t 13))] [10, 11, 12, 13]) (.seq (.cond (.t 14) (.seq (.region [oI 6 (.mv (.c (.bool false)))] [0, 1, 2, 14]) (.ret)) (.region [] [14])) (.region [oI 15 (.mv (.t 0)), oI 16 (.len (.t 15)), oI 17 (.mv (ci 0))] [0])))) cn
def cu7zif : ACode := gcu7zif cu7zif_1
abbrev u7zift3 (R : Type) := Sl → Sl → Value → AH → Option R
def u7zifs3 (t0 t1 : Sl) (t2 : Value) : List Value := t0.v :: t1.v :: t2 :: un 29 []
def a_slices_EqualFunc : AFunc := ⟨32, cu7zif, [.tmp 6]⟩
theorem ok_slices_EqualFunc : okF Tryz.prog 123 a_slices_EqualFunc = true := by kernel_rfl
def u7zif_1_2 {R : Type} (C : Callee) (fl k : Nat) (kr : u7zift0 R) : u7zift1 R := fun h => kr true h
theorem u7zif_1_2_e {R} (C fl k) (K : KF R) : (cp0 u7zifs1 (ce C fl k cu7zif_1_2 K)) = u7zif_1_2 C fl k (cp1 u7zifs0 (K .ret)) := by kernel_rfl
def u7zif_1_b {R : Type} (C : Callee) (fl k : Nat) (kn : u7zift2 R) (e0 : u7zift1 R) (kr : u7zift0 R) : u7zift2 R := fun t1 t2 t15 t16 t17 h => if decide (t17 < t16) = true then idx 1 t15 t17 fun p1 => ldS h p1.block p1.off fun s2 => idx 1 t1 t17 fun p3 => ldS h p3.block p3.off fun s4 => callV C fl t2 [.slice s2.a s2.l s2.c, .slice s4.a s4.l s4.c] h fun v5 h6 => asBool v5 fun b7 => if (!b7) = true then kr false h6 else kn t1 t2 t15 t16 (w64 (t17 + 1)) h6 else e0 h
theorem u7zif_1_b_e {R} (C fl k) (K : KF R) : (cp5 u7zifs2 (ce C fl k cu7zif_1_b K)) = u7zif_1_b C fl k (cp5 u7zifs2 (K .normal)) (cp0 u7zifs1 (K (.exit 0))) (cp1 u7zifs0 (K .ret)) := by kernel_rfl
def u7zif_1_l {R : Type} (C : Callee) (fl k : Nat) (kn : u7zift1 R) (kr : u7zift0 R) : Nat → u7zift2 R
  | 0 => fun _ _ _ _ _ _ => none
  | m + 1 => u7zif_1_b C fl k (u7zif_1_l C fl k kn kr m) kn kr
theorem u7zif_1_l_p {R} (C fl k) (K : KF R) : ∀ m, (cp5 u7zifs2 (loopK m (kstep C fl k cu7zif_1_b 0 K))) = u7zif_1_l C fl k (cp0 u7zifs1 (K .normal)) (cp1 u7zifs0 (K .ret)) m
  | 0 => by kernel_rfl
  | m + 1 => (congr1 (fun g => (cp5 u7zifs2 (g))) (loop_ce C fl k cu7zif_1_b 0 K m)).trans ((u7zif_1_b_e C fl k _).trans (congr1 (fun L => u7zif_1_b C fl k L (cp0 u7zifs1 (K .normal)) (cp1 u7zifs0 (K .ret))) (u7zif_1_l_p C fl k K m)))
theorem u7zif_1_l_e {R} (C fl k) (K : KF R) : (cp5 u7zifs2 (ce C fl k (.block 0 (.loop cu7zif_1_b)) K)) = u7zif_1_l C fl k (cp0 u7zifs1 (K .normal)) (cp1 u7zifs0 (K .ret)) k := (congr1 (fun g => (cp5 u7zifs2 (g))) (ce_loop C fl k cu7zif_1_b 0 K)).trans (u7zif_1_l_p C fl k K k)
def u7zif_1 {R : Type} (C : Callee) (fl k : Nat) (kr : u7zift0 R) : u7zift2 R := u7zif_1_l C fl k (u7zif_1_2 C fl k kr) kr k
theorem u7zif_1_e {R} (C fl k) (K : KF R) : (cp5 u7zifs2 (ce C fl k cu7zif_1 K)) = u7zif_1 C fl k (cp1 u7zifs0 (K .ret)) := ((congr1 (fun g => (cp5 u7zifs2 (g))) (ce_seq C fl k _ _ K)).trans (u7zif_1_l_e C fl k (kseq C fl k cu7zif_1_2 K))).trans (congr1 (fun L => u7zif_1_l C fl k L (cp1 u7zifs0 (K .ret)) k) ((congr1 (fun g => (cp0 u7zifs1 (g))) (seq_n C fl k cu7zif_1_2 K)).trans (u7zif_1_2_e C fl k K)))
def u7zifF {R : Type} (C : Callee) (fl k : Nat) (kx : u7zift2 R)  (kr : u7zift0 R) : u7zift3 R := fun t0 t1 t2 h => if (((t0.l : Nat) : Int) != ((t1.l : Nat) : Int)) = true then kr false h else kx t1 t2 t0 ((t0.l : Nat) : Int) 0 h
def u7zif {R : Type} (C : Callee) (fl k : Nat) (kr : u7zift0 R) : u7zift3 R := u7zifF C fl k (u7zif_1 C fl k kr)  kr
theorem u7zif_g {R} (C fl k) (cn : ACode) (K : KF R) : (cp3 u7zifs3 (ce C fl k (gcu7zif cn) K)) = u7zifF C fl k (cp5 u7zifs2 (ce C fl k cn K)) (cp1 u7zifs0 (K .ret)) := by kernel_rfl
theorem u7zif_e {R} (C fl k) (K : KF R) : (cp3 u7zifs3 (ce C fl k cu7zif K)) = u7zif C fl k (cp1 u7zifs0 (K .ret)) := (u7zif_g C fl k cu7zif_1 K).trans (congr1 (fun L0 => u7zifF C fl k L0 (cp1 u7zifs0 (K .ret))) (u7zif_1_e C fl k K))
def slices_EqualFunc (C : Callee) (fl k : Nat) (p0 p1 : Sl) (p2 : Value) (h : AH) : Option (Value × AH) := u7zif C fl k (fun y6 q => some (.bool y6, q)) p0 p1 p2 h
theorem slices_EqualFunc_run (C fl k) (p0 p1 : Sl) (p2 : Value) (h) : runF C fl k a_slices_EqualFunc [.slice p0.a p0.l p0.c, .slice p1.a p1.l p1.c, p2] h = slices_EqualFunc C fl k p0 p1 p2 h :=
  (runF_ce C fl k a_slices_EqualFunc [.slice p0.a p0.l p0.c, .slice p1.a p1.l p1.c, p2] h cu7zif (u7zifs3 p0 p1 p2) rfl (by kernel_rfl)).trans ((cp3_ap u7zifs3 (ce C fl k cu7zif (finalK a_slices_EqualFunc.results)) p0 p1 p2 h).symm.trans ((congrFun (congrFun (congrFun (congrFun (u7zif_e C fl k (finalK a_slices_EqualFunc.results)) p0) p1) p2) h).trans (show u7zif C fl k (cp1 u7zifs0 ((finalK a_slices_EqualFunc.results) .ret)) p0 p1 p2 h = slices_EqualFunc C fl k p0 p1 p2 h by kernel_rfl)))
def d_slices_EqualFunc (C : Callee) (fl k : Nat) (args : List Value) (h : AH) : Option (Value × AH) := match args with
  | [.slice n0a n0l n0c, .slice n1a n1l n1c, n2] => slices_EqualFunc C fl k ⟨n0a, n0l, n0c⟩ ⟨n1a, n1l, n1c⟩ n2 h
  | _ => none
theorem d_slices_EqualFunc_run {C : Callee} {fl k : Nat} {args : List Value} {h : AH} {r : Value × AH} (e : d_slices_EqualFunc C fl k args h = some r) : runF C fl k a_slices_EqualFunc args h = some r := by
  unfold d_slices_EqualFunc at e
  split at e
  · rename_i n0a n0l n0c n1a n1l n1c n2; exact (slices_EqualFunc_run C fl k ⟨n0a, n0l, n0c⟩ ⟨n1a, n1l, n1c⟩ n2 h).trans e
  · cases e
abbrev uvld6t0 (R : Type) := Bool → AH → Option R
def uvld6s0 (t4 : Bool) : List Value := un 4 (.bool t4 :: un 21 [])
def cuvld6_1_2 : ACode := .seq (.region [oI 4 (.mv (.c (.bool true)))] []) (.ret)
abbrev uvld6t1 (R : Type) := AH → Option R
def uvld6s1 : List Value := un 26 []
abbrev uvld6t2 (R : Type) := Sl → Sl → Int → Int → AH → Option R
def uvld6s2 (t0 t1 : Sl) (t12 t13 : Int) : List Value := t0.v :: t1.v :: un 10 (vi t12 :: vi t13 :: un 12 [])
def cuvld6_1_b : ACode := .seq (.region [oI 14 (.cmp .lss .i64 (.t 13) (.t 12))] []) (.seq (.cond (.t 14) (.region [] [14]) (.seq (.region [] [0, 1, 12, 13, 14]) (.exit 0))) (.seq (.block 1 (.seq (.region [oI 15 (.mv (.t 13)), oI 5 (.mv (.t 15))] [15]) (.seq (.region [oI 16 (.mv (.t 0)), oI 17 (.mv (.t 5)), oI 18 (.iaddr 1 (.t 16) (.t 17)), oJ 19 (.load (.one (.int .i64)) (.t 18)), oI 20 (.mv (.t 1)), oI 21 (.mv (.t 5)), oI 22 (.iaddr 1 (.t 20) (.t 21)), oJ 23 (.load (.one (.int .i64)) (.t 22)), oI 24 (.cmp .neq .i64 (.t 19) (.t 23))] [5, 16, 17, 18, 19, 20, 21, 22, 23]) (.cond (.t 24) (.seq (.region [oI 4 (.mv (.c (.bool false)))] [0, 1, 12, 13, 24]) (.ret)) (.region [] [24]))))) (.region [oI 25 (.bin .add .i64 (.t 13) (ci 1)), oI 13 (.mv (.t 25))] [25])))
def cuvld6_1 : ACode := .seq (.block 0 (.loop cuvld6_1_b)) cuvld6_1_2
def gcuvld6 (cn : ACode) : ACode := .seq (.seq (.region [oI 4 (.mv (.c (.bool false)))] [4]) (.seq (.region [oI 6 (.mv (.t 0)), oI 7 (.len (.t 6)), oI 8 (.mv (.t 1)), oI 9 (.len (.t 8)), oI 10 (.cmp .neq .i64 (.t 7) (.t 9))] [6, 7, 8, 9]) (.seq (.cond (.t 10) (.seq (.region [oI 4 (.mv (.c (.bool false)))] [0, 1, 10]) (.ret)) (.region [] [10])) (.region [oI 11 (.mv (.t 0)), oI 12 (.len (.t 11)), oI 13 (.mv (ci 0))] [11])))) cn
def cuvld6 : ACode := gcuvld6 cuvld6_1
abbrev uvld6t3 (R : Type) := Sl → Sl → AH → Option R
def uvld6s3 (t0 t1 : Sl) : List Value := t0.v :: t1.v :: un 24 []
def a_slices_Equal : AFunc := ⟨26, cuvld6, [.tmp 4]⟩
theorem ok_slices_Equal : okF Tryz.prog 124 a_slices_Equal = true := by kernel_rfl
def uvld6_1_2 {R : Type} (C : Callee) (fl k : Nat) (kr : uvld6t0 R) : uvld6t1 R := fun h => kr true h
theorem uvld6_1_2_e {R} (C fl k) (K : KF R) : (cp0 uvld6s1 (ce C fl k cuvld6_1_2 K)) = uvld6_1_2 C fl k (cp1 uvld6s0 (K .ret)) := by kernel_rfl
def uvld6_1_b {R : Type} (C : Callee) (fl k : Nat) (kn : uvld6t2 R) (e0 : uvld6t1 R) (kr : uvld6t0 R) : uvld6t2 R := fun t0 t1 t12 t13 h => if decide (t13 < t12) = true then idx 1 t0 t13 fun p1 => ldI .i64 h p1.block p1.off fun n2 => idx 1 t1 t13 fun p3 => ldI .i64 h p3.block p3.off fun n4 => if (n2 != n4) = true then kr false h else kn t0 t1 t12 (w64 (t13 + 1)) h else e0 h
theorem uvld6_1_b_e {R} (C fl k) (K : KF R) : (cp4 uvld6s2 (ce C fl k cuvld6_1_b K)) = uvld6_1_b C fl k (cp4 uvld6s2 (K .normal)) (cp0 uvld6s1 (K (.exit 0))) (cp1 uvld6s0 (K .ret)) := by kernel_rfl
def uvld6_1_l {R : Type} (C : Callee) (fl k : Nat) (kn : uvld6t1 R) (kr : uvld6t0 R) : Nat → uvld6t2 R
  | 0 => fun _ _ _ _ _ => none
  | m + 1 => uvld6_1_b C fl k (uvld6_1_l C fl k kn kr m) kn kr
theorem uvld6_1_l_p {R} (C fl k) (K : KF R) : ∀ m, (cp4 uvld6s2 (loopK m (kstep C fl k cuvld6_1_b 0 K))) = uvld6_1_l C fl k (cp0 uvld6s1 (K .normal)) (cp1 uvld6s0 (K .ret)) m
  | 0 => by kernel_rfl
  | m + 1 => (congr1 (fun g => (cp4 uvld6s2 (g))) (loop_ce C fl k cuvld6_1_b 0 K m)).trans ((uvld6_1_b_e C fl k _).trans (congr1 (fun L => uvld6_1_b C fl k L (cp0 uvld6s1 (K .normal)) (cp1 uvld6s0 (K .ret))) (uvld6_1_l_p C fl k K m)))
theorem uvld6_1_l_e {R} (C fl k) (K : KF R) : (cp4 uvld6s2 (ce C fl k (.block 0 (.loop cuvld6_1_b)) K)) = uvld6_1_l C fl k (cp0 uvld6s1 (K .normal)) (cp1 uvld6s0 (K .ret)) k := (congr1 (fun g => (cp4 uvld6s2 (g))) (ce_loop C fl k cuvld6_1_b 0 K)).trans (uvld6_1_l_p C fl k K k)
def uvld6_1 {R : Type} (C : Callee) (fl k : Nat) (kr : uvld6t0 R) : uvld6t2 R := uvld6_1_l C fl k (uvld6_1_2 C fl k kr) kr k
theorem uvld6_1_e {R} (C fl k) (K : KF R) : (cp4 uvld6s2 (ce C fl k cuvld6_1 K)) = uvld6_1 C fl k (cp1 uvld6s0 (K .ret)) := ((congr1 (fun g => (cp4 uvld6s2 (g))) (ce_seq C fl k _ _ K)).trans (uvld6_1_l_e C fl k (kseq C fl k cuvld6_1_2 K))).trans (congr1 (fun L => uvld6_1_l C fl k L (cp1 uvld6s0 (K .ret)) k) ((congr1 (fun g => (cp0 uvld6s1 (g))) (seq_n C fl k cuvld6_1_2 K)).trans (uvld6_1_2_e C fl k K)))
def uvld6F {R : Type} (C : Callee) (fl k : Nat) (kx : uvld6t2 R)  (kr : uvld6t0 R) : uvld6t3 R := fun t0 t1 h => if (((t0.l : Nat) : Int) != ((t1.l : Nat) : Int)) = true then kr false h else kx t0 t1 ((t0.l : Nat) : Int) 0 h
def uvld6 {R : Type} (C : Callee) (fl k : Nat) (kr : uvld6t0 R) : uvld6t3 R := uvld6F C fl k (uvld6_1 C fl k kr)  kr
theorem uvld6_g {R} (C fl k) (cn : ACode) (K : KF R) : (cp2 uvld6s3 (ce C fl k (gcuvld6 cn) K)) = uvld6F C fl k (cp4 uvld6s2 (ce C fl k cn K)) (cp1 uvld6s0 (K .ret)) := by kernel_rfl
theorem uvld6_e {R} (C fl k) (K : KF R) : (cp2 uvld6s3 (ce C fl k cuvld6 K)) = uvld6 C fl k (cp1 uvld6s0 (K .ret)) := (uvld6_g C fl k cuvld6_1 K).trans (congr1 (fun L0 => uvld6F C fl k L0 (cp1 uvld6s0 (K .ret))) (uvld6_1_e C fl k K))
def slices_Equal (C : Callee) (fl k : Nat) (p0 p1 : Sl) (h : AH) : Option (Value × AH) := uvld6 C fl k (fun y4 q => some (.bool y4, q)) p0 p1 h
theorem slices_Equal_run (C fl k) (p0 p1 : Sl) (h) : runF C fl k a_slices_Equal [.slice p0.a p0.l p0.c, .slice p1.a p1.l p1.c] h = slices_Equal C fl k p0 p1 h :=
  (runF_ce C fl k a_slices_Equal [.slice p0.a p0.l p0.c, .slice p1.a p1.l p1.c] h cuvld6 (uvld6s3 p0 p1) rfl (by kernel_rfl)).trans ((cp2_ap uvld6s3 (ce C fl k cuvld6 (finalK a_slices_Equal.results)) p0 p1 h).symm.trans ((congrFun (congrFun (congrFun (uvld6_e C fl k (finalK a_slices_Equal.results)) p0) p1) h).trans (show uvld6 C fl k (cp1 uvld6s0 ((finalK a_slices_Equal.results) .ret)) p0 p1 h = slices_Equal C fl k p0 p1 h by kernel_rfl)))
def d_slices_Equal (C : Callee) (fl k : Nat) (args : List Value) (h : AH) : Option (Value × AH) := match args with
  | [.slice n0a n0l n0c, .slice n1a n1l n1c] => slices_Equal C fl k ⟨n0a, n0l, n0c⟩ ⟨n1a, n1l, n1c⟩ h
  | _ => none
theorem d_slices_Equal_run {C : Callee} {fl k : Nat} {args : List Value} {h : AH} {r : Value × AH} (e : d_slices_Equal C fl k args h = some r) : runF C fl k a_slices_Equal args h = some r := by
  unfold d_slices_Equal at e
  split at e
  · rename_i n0a n0l n0c n1a n1l n1c; exact (slices_Equal_run C fl k ⟨n0a, n0l, n0c⟩ ⟨n1a, n1l, n1c⟩ h).trans e
  · cases e
abbrev urm45t0 (R : Type) := OA → Int → AH → Option R
def urm45s0 (t4 : OA) (t5 : Int) : List Value := un 4 (vn t4 :: vi t5 :: un 20 [])
def curm45 : ACode := .seq (.region [oI 2 (.box (.t 0)), oI 4 (.mv (.c (.pointer none))), oI 5 (.mv (ci 0))] [0, 4, 5]) (.seq (.region [oI 9 (.load (.agg [.int .i64, .int .i64, .slice, .int .i64, .slice]) (.t 2)), oI 10 (.call (.f 47) [.t 9] (.one (.one (.int .i64)))), oI 6 (.mv (.t 10))] [9, 10]) (.seq (.region [oI 11 (.mv (.t 6)), oI 12 (.cmp .neq .i64 (.t 11) (ci 0))] [11]) (.seq (.cond (.t 12) (.seq (.region [oI 13 (.mv (.t 6)), oI 4 (.mv (.c (.pointer none))), oI 5 (.mv (.t 13))] [1, 2, 6, 12, 13]) (.ret)) (.region [] [6, 12])) (.seq (.region [oI 15 (.faddr 0 (.t 2)), oI 16 (.load (.agg [.int .i64, .int .i64, .slice]) (.t 15)), oI 17 (.call (.f 75) [.t 16] (.tup [.one .nptr, .one (.int .i64)])), oI 14 (.mv (.t 17)), oI 18 (.extr (.t 14) 0), oI 19 (.extr (.t 14) 1), oI 7 (.mv (.t 18)), oI 8 (.mv (.t 19))] [14, 15, 16, 17, 18, 19]) (.seq (.region [oI 20 (.mv (.t 7)), oI 21 (.load (.agg [.int .i64, .int .i64, .slice, .int .i64, .slice]) (.t 2)), oI 22 (.mv (.t 1)), oI 23 (.build [.pointer none, .int .i64 0, .int .i64 0, .slice none 0 0, .int .i64 0, .slice none 0 0, .slice none 0 0, .bool false, .int .i64 0, .int .i64 0, .slice none 0 0, .int .i64 0] [(0, 1, .t 20), (1, 5, .t 21), (9, 1, .t 22)]), oI 24 (.box (.t 23)), oI 25 (.mv (.t 8)), oI 4 (.mv (.t 24)), oI 5 (.mv (.t 25))] [1, 2, 7, 8, 20, 21, 22, 23, 24, 25]) (.ret))))))
abbrev urm45t1 (R : Type) := Int → Int → Sl → Int → Sl → Int → AH → Option R
def urm45s1 (t0_0 t0_1 : Int) (t0_2 : Sl) (t0_3 : Int) (t0_4 : Sl) (t1 : Int) : List Value := .agg ⟨[.int .i64 t0_0, .int .i64 t0_1, .slice t0_2.a t0_2.l t0_2.c, .int .i64 t0_3, .slice t0_4.a t0_4.l t0_4.c]⟩ :: vi t1 :: un 24 []
def a_exclusion_open : AFunc := ⟨26, curm45, [.tmp 4, .tmp 5]⟩
theorem ok_exclusion_open : okF Tryz.prog 127 a_exclusion_open = true := by kernel_rfl
def urm45 {R : Type} (C : Callee) (fl k : Nat) (kr : urm45t0 R) : urm45t1 R := fun t0_0 t0_1 t0_2 t0_3 t0_4 t1 h => alc h [.int .i64 t0_0, .int .i64 t0_1, .slice t0_2.a t0_2.l t0_2.c, .int .i64 t0_3, .slice t0_4.a t0_4.l t0_4.c] fun b1 h2 => ldI .i64 h2 b1 0 fun n3 => ldI .i64 h2 b1 1 fun n4 => ldS h2 b1 2 fun s5 => ldI .i64 h2 b1 3 fun n6 => ldS h2 b1 4 fun s7 => callF C fl fn.code_Check [.agg ⟨[.int .i64 n3, .int .i64 n4, .slice s5.a s5.l s5.c, .int .i64 n6, .slice s7.a s7.l s7.c]⟩] h2 fun v8 h9 => asInt .i64 v8 fun n10 => if (n10 != 0) = true then kr none n10 h9 else ldI .i64 h9 b1 0 fun n11 => ldI .i64 h9 b1 1 fun n12 => ldS h9 b1 2 fun s13 => callF C fl fn.field_New [.agg ⟨[.int .i64 n11, .int .i64 n12, .slice s13.a s13.l s13.c]⟩] h9 fun v14 h15 => asTup v14 fun l16 => ucons l16 fun v17 l18 => asNptr v17 fun p19 => ucons l18 fun v20 l21 => asInt .i64 v20 fun n22 => unil l21 (ldI .i64 h15 b1 0 fun n23 => ldI .i64 h15 b1 1 fun n24 => ldS h15 b1 2 fun s25 => ldI .i64 h15 b1 3 fun n26 => ldS h15 b1 4 fun s27 => alc h15 [.pointer p19, .int .i64 n23, .int .i64 n24, .slice s25.a s25.l s25.c, .int .i64 n26, .slice s27.a s27.l s27.c, .slice none 0 0, .bool false, .int .i64 0, .int .i64 t1, .slice none 0 0, .int .i64 0] fun b28 h29 => kr (some ⟨b28, 0, none⟩) n22 h29)
theorem urm45_e {R} (C fl k) (K : KF R) : (cp6 urm45s1 (ce C fl k curm45 K)) = urm45 C fl k (cp2 urm45s0 (K .ret)) := by kernel_rfl
def exclusion_open (C : Callee) (fl k : Nat) (p0_0 p0_1 : Int) (p0_2 : Sl) (p0_3 : Int) (p0_4 : Sl) (p1 : Int) (h : AH) : Option (Value × AH) := urm45 C fl k (fun y4 y5 q => some (.tuple ⟨[.pointer y4, .int .i64 y5]⟩, q)) p0_0 p0_1 p0_2 p0_3 p0_4 p1 h
theorem exclusion_open_run (C fl k) (p0_0 p0_1 : Int) (p0_2 : Sl) (p0_3 : Int) (p0_4 : Sl) (p1 : Int) (h) : runF C fl k a_exclusion_open [.agg ⟨[.int .i64 p0_0, .int .i64 p0_1, .slice p0_2.a p0_2.l p0_2.c, .int .i64 p0_3, .slice p0_4.a p0_4.l p0_4.c]⟩, .int .i64 p1] h = exclusion_open C fl k p0_0 p0_1 p0_2 p0_3 p0_4 p1 h :=
  (runF_ce C fl k a_exclusion_open [.agg ⟨[.int .i64 p0_0, .int .i64 p0_1, .slice p0_2.a p0_2.l p0_2.c, .int .i64 p0_3, .slice p0_4.a p0_4.l p0_4.c]⟩, .int .i64 p1] h curm45 (urm45s1 p0_0 p0_1 p0_2 p0_3 p0_4 p1) rfl (by kernel_rfl)).trans ((cp6_ap urm45s1 (ce C fl k curm45 (finalK a_exclusion_open.results)) p0_0 p0_1 p0_2 p0_3 p0_4 p1 h).symm.trans ((congrFun (congrFun (congrFun (congrFun (congrFun (congrFun (congrFun (urm45_e C fl k (finalK a_exclusion_open.results)) p0_0) p0_1) p0_2) p0_3) p0_4) p1) h).trans (show urm45 C fl k (cp2 urm45s0 ((finalK a_exclusion_open.results) .ret)) p0_0 p0_1 p0_2 p0_3 p0_4 p1 h = exclusion_open C fl k p0_0 p0_1 p0_2 p0_3 p0_4 p1 h by kernel_rfl)))
def d_exclusion_open (C : Callee) (fl k : Nat) (args : List Value) (h : AH) : Option (Value × AH) := match args with
  | [.agg ⟨[.int .i64 n1, .int .i64 n2, .slice n3a n3l n3c, .int .i64 n4, .slice n5a n5l n5c]⟩, .int .i64 n6] => exclusion_open C fl k n1 n2 ⟨n3a, n3l, n3c⟩ n4 ⟨n5a, n5l, n5c⟩ n6 h
  | _ => none
theorem d_exclusion_open_run {C : Callee} {fl k : Nat} {args : List Value} {h : AH} {r : Value × AH} (e : d_exclusion_open C fl k args h = some r) : runF C fl k a_exclusion_open args h = some r := by
  unfold d_exclusion_open at e
  split at e
  · rename_i n1 n2 n3a n3l n3c n4 n5a n5l n5c n6; exact (exclusion_open_run C fl k n1 n2 ⟨n3a, n3l, n3c⟩ n4 ⟨n5a, n5l, n5c⟩ n6 h).trans e
  · cases e
abbrev u2a6xt0 (R : Type) := Int → AH → Option R
def u2a6xs0 (t6 : Int) : List Value := un 6 (vi t6 :: un 52 [])
def cu2a6x_1 : ACode := .seq (.region [oI 22 (.mv (.t 0)), oI 23 (.mv (.t 0)), oI 24 (.mv (.t 1)), oI 25 (.mv (.t 2)), oI 26 (.call (.f 159) [.t 23, .t 24, .t 25] (.one (.one .slice))), oI 27 (.mv (.t 7)), oI 28 (.call (.f 158) [.t 22, .t 26, .t 27] (.one (.one .slice))), oI 8 (.mv (.t 28))] [7, 22, 23, 24, 25, 26, 27, 28]) (.seq (.region [oI 29 (.mv (.t 8)), oI 30 (.call (.f 160) [.t 29] (.tup []))] [29, 30]) (.seq (.region [oI 31 (.mv (.t 0)), oI 32 (.mv (.t 1)), oI 33 (.mv (.t 8)), oI 34 (.call (.f 161) [.t 31, .t 32, .t 33] (.one (.one .bool))), oI 35 (.not (.t 34))] [31, 32, 33, 34]) (.seq (.cond (.t 35) (.seq (.region [oI 6 (.mv (ci 11))] [0, 1, 2, 8, 35]) (.ret)) (.region [] [35])) (.seq (.region [oI 36 (.mv (.t 0)), oI 37 (.nilc (.t 36)), oI 38 (.faddr 10 (.t 37)), oI 39 (.load (.one .slice) (.t 38)), oI 40 (.len (.t 39)), oI 41 (.cmp .eql .i64 (.t 40) (ci 65536))] [36, 37, 38, 39, 40]) (.seq (.cond (.t 41) (.seq (.region [oI 6 (.mv (ci 8))] [0, 1, 2, 8, 41]) (.ret)) (.region [] [41])) (.seq (.region [oI 42 (.mv (.t 0)), oI 43 (.mv (.t 0)), oI 44 (.nilc (.t 43)), oI 45 (.faddr 10 (.t 44)), oI 46 (.load (.one .slice) (.t 45)), oI 47 (.mv (.t 8)), oI 48 (.bslice 1 [.slice none 0 0] [(0, 1, .t 47)]), oI 49 (.append 1 24 (.t 46) (.t 48)), oI 50 (.nilc (.t 42)), oI 51 (.faddr 10 (.t 50)), pI (.store 1 (.t 51) (.t 49))] [42, 43, 44, 45, 46, 47, 48, 49, 50, 51]) (.seq (.region [oI 52 (.mv (.t 0)), oI 53 (.mv (.t 1)), oI 54 (.mv (.t 2)), oI 55 (.mv (.t 8)), oI 56 (.mv (.t 0)), oI 57 (.mkfn 128 [.t 56] []), oI 58 (.call (.f 162) [.t 52, .t 53, .t 54, .t 55, .t 57] (.one (.one (.int .i64)))), oI 6 (.mv (.t 58))] [0, 1, 2, 8, 52, 53, 54, 55, 56, 57, 58]) (.ret))))))))
abbrev u2a6xt1 (R : Type) := OA → Sl → Sl → Int → AH → Option R
def u2a6xs1 (t0 : OA) (t1 t2 : Sl) (t7 : Int) : List Value := vn t0 :: t1.v :: t2.v :: un 4 (vi t7 :: un 51 [])
def gcu2a6x (cn : ACode) : ACode := .seq (.seq (.region [oI 6 (.mv (ci 0))] [6]) (.seq (.region [oI 9 (.mv (.t 0)), oI 10 (.nilc (.t 9)), oI 11 (.faddr 8 (.t 10)), oI 12 (.load (.one (.int .i64)) (.t 11)), oI 7 (.mv (.t 12))] [9, 10, 11, 12]) (.seq (.region [oI 13 (.mv (.t 0)), oI 14 (.nilc (.t 13)), oI 15 (.faddr 7 (.t 14)), oI 16 (.load (.one .bool) (.t 15))] [13, 14, 15]) (.cond (.t 16) (.region [oI 17 (.mv (.t 0)), oI 18 (.nilc (.t 17)), oI 19 (.faddr 1 (.t 18)), oI 20 (.faddr 3 (.t 19)), oI 21 (.load (.one (.int .i64)) (.t 20)), oI 7 (.mv (.t 21))] [16, 17, 18, 19, 20, 21]) (.region [] [16]))))) cn
def cu2a6x : ACode := gcu2a6x cu2a6x_1
abbrev u2a6xt2 (R : Type) := OA → Sl → Sl → AH → Option R
def u2a6xs2 (t0 : OA) (t1 t2 : Sl) : List Value := vn t0 :: t1.v :: t2.v :: un 56 []
def a_exclusion_proof_build : AFunc := ⟨59, cu2a6x, [.tmp 6]⟩
theorem ok_exclusion_proof_build : okF Tryz.prog 128 a_exclusion_proof_build = true := by kernel_rfl
def u2a6x_1 {R : Type} (C : Callee) (fl k : Nat) (kr : u2a6xt0 R) : u2a6xt1 R := fun t0 t1 t2 t7 h => callF C fl fn.exclusion_proof_outside [.pointer t0, .slice t1.a t1.l t1.c, .slice t2.a t2.l t2.c] h fun v1 h2 => asSl v1 fun s3 => callF C fl fn.exclusion_proof_greedy [.pointer t0, .slice s3.a s3.l s3.c, .int .i64 t7] h2 fun v4 h5 => asSl v4 fun s6 => callF C fl fn.slices_Sort [.slice s6.a s6.l s6.c] h5 fun v7 h8 => asTup v7 fun l9 => unil l9 (callF C fl fn.exclusion_proof_right [.pointer t0, .slice t1.a t1.l t1.c, .slice s6.a s6.l s6.c] h8 fun v10 h11 => asBool v10 fun b12 => if (!b12) = true then kr 11 h11 else asPtr (.pointer t0) fun p13 => ldS h11 p13.block (p13.off + 10) fun s14 => if (((s14.l : Nat) : Int) == 65536) = true then kr 8 h11 else asPtr (.pointer t0) fun p15 => ldS h11 p15.block (p15.off + 10) fun s16 => alc h11 [.slice s6.a s6.l s6.c] fun b17 h18 => apnd fl 1 24 s16 ⟨(some ⟨b17, 0, none⟩), 1, 1⟩ h18 fun s19 h20 => asPtr (.pointer t0) fun p21 => st fl h20 ⟨p21.block, p21.off + 10, none⟩ [.slice s19.a s19.l s19.c] fun h22 => callF C fl fn.exclusion_proof_children [.pointer t0, .slice t1.a t1.l t1.c, .slice t2.a t2.l t2.c, .slice s6.a s6.l s6.c, .func (.func fn.exclusion_proof_build) ⟨[.pointer t0]⟩ ⟨[]⟩] h22 fun v23 h24 => asInt .i64 v23 fun n25 => kr n25 h24)
theorem u2a6x_1_e {R} (C fl k) (K : KF R) : (cp4 u2a6xs1 (ce C fl k cu2a6x_1 K)) = u2a6x_1 C fl k (cp1 u2a6xs0 (K .ret)) := by kernel_rfl
def u2a6xF {R : Type} (C : Callee) (fl k : Nat) (kx : u2a6xt1 R)  (kr : u2a6xt0 R) : u2a6xt2 R := fun t0 t1 t2 h => asPtr (.pointer t0) fun p26 => ldI .i64 h p26.block (p26.off + 8) fun n27 => asPtr (.pointer t0) fun p28 => ldB h p28.block (p28.off + 7) fun b29 => if b29 = true then asPtr (.pointer t0) fun p30 => ldI .i64 h p30.block (p30.off + 1 + 3) fun n31 => kx t0 t1 t2 n31 h else kx t0 t1 t2 n27 h
def u2a6x {R : Type} (C : Callee) (fl k : Nat) (kr : u2a6xt0 R) : u2a6xt2 R := u2a6xF C fl k (u2a6x_1 C fl k kr)  kr
theorem u2a6x_g {R} (C fl k) (cn : ACode) (K : KF R) : (cp3 u2a6xs2 (ce C fl k (gcu2a6x cn) K)) = u2a6xF C fl k (cp4 u2a6xs1 (ce C fl k cn K)) (cp1 u2a6xs0 (K .ret)) := by kernel_rfl
theorem u2a6x_e {R} (C fl k) (K : KF R) : (cp3 u2a6xs2 (ce C fl k cu2a6x K)) = u2a6x C fl k (cp1 u2a6xs0 (K .ret)) := (u2a6x_g C fl k cu2a6x_1 K).trans (congr1 (fun L0 => u2a6xF C fl k L0 (cp1 u2a6xs0 (K .ret))) (u2a6x_1_e C fl k K))
def exclusion_proof_build (C : Callee) (fl k : Nat) (p0 : OA) (p1 p2 : Sl) (h : AH) : Option (Value × AH) := u2a6x C fl k (fun y6 q => some (.int .i64 y6, q)) p0 p1 p2 h
theorem exclusion_proof_build_run (C fl k) (p0 : OA) (p1 p2 : Sl) (h) : runF C fl k a_exclusion_proof_build [.pointer p0, .slice p1.a p1.l p1.c, .slice p2.a p2.l p2.c] h = exclusion_proof_build C fl k p0 p1 p2 h :=
  (runF_ce C fl k a_exclusion_proof_build [.pointer p0, .slice p1.a p1.l p1.c, .slice p2.a p2.l p2.c] h cu2a6x (u2a6xs2 p0 p1 p2) rfl (by kernel_rfl)).trans ((cp3_ap u2a6xs2 (ce C fl k cu2a6x (finalK a_exclusion_proof_build.results)) p0 p1 p2 h).symm.trans ((congrFun (congrFun (congrFun (congrFun (u2a6x_e C fl k (finalK a_exclusion_proof_build.results)) p0) p1) p2) h).trans (show u2a6x C fl k (cp1 u2a6xs0 ((finalK a_exclusion_proof_build.results) .ret)) p0 p1 p2 h = exclusion_proof_build C fl k p0 p1 p2 h by kernel_rfl)))
def d_exclusion_proof_build (C : Callee) (fl k : Nat) (args : List Value) (h : AH) : Option (Value × AH) := match args with
  | [.pointer n0, .slice n1a n1l n1c, .slice n2a n2l n2c] => exclusion_proof_build C fl k n0 ⟨n1a, n1l, n1c⟩ ⟨n2a, n2l, n2c⟩ h
  | _ => none
theorem d_exclusion_proof_build_run {C : Callee} {fl k : Nat} {args : List Value} {h : AH} {r : Value × AH} (e : d_exclusion_proof_build C fl k args h = some r) : runF C fl k a_exclusion_proof_build args h = some r := by
  unfold d_exclusion_proof_build at e
  split at e
  · rename_i n0 n1a n1l n1c n2a n2l n2c; exact (exclusion_proof_build_run C fl k n0 ⟨n1a, n1l, n1c⟩ ⟨n2a, n2l, n2c⟩ h).trans e
  · cases e
abbrev uxe4xt0 (R : Type) := Int → AH → Option R
def uxe4xs0 (t6 : Int) : List Value := un 6 (vi t6 :: un 50 [])
def cuxe4x : ACode := .seq (.region [oI 6 (.mv (ci 0))] [6]) (.seq (.region [oI 7 (.mv (.t 0)), oI 8 (.nilc (.t 7)), oI 9 (.faddr 11 (.t 8)), oJ 10 (.load (.one (.int .i64)) (.t 9)), oI 11 (.mv (.t 0)), oI 12 (.nilc (.t 11)), oI 13 (.faddr 10 (.t 12)), oJ 14 (.load (.one .slice) (.t 13)), oI 15 (.len (.t 14)), oI 16 (.cmp .eql .i64 (.t 10) (.t 15)), oI 17 (.mv (.t 16)), .grp 17 false [qI 18 (.mv (.t 0)), qI 19 (.mv (.t 1)), qI 20 (.mv (.t 0)), qI 21 (.nilc (.t 20)), qI 22 (.faddr 10 (.t 21)), qJ 23 (.load (.one .slice) (.t 22)), qI 24 (.mv (.t 0)), qI 25 (.nilc (.t 24)), qI 26 (.faddr 11 (.t 25)), qJ 27 (.load (.one (.int .i64)) (.t 26)), qI 28 (.iaddr 1 (.t 23) (.t 27)), qI 29 (.load (.one .slice) (.t 28)), qI 30 (.call (.f 161) [.t 18, .t 19, .t 29] (.one (.one .bool))), qI 31 (.not (.t 30))], oI 32 (.pick (.t 17) (.c (.bool true)) (.t 31))] [7, 8, 9, 10, 11, 12, 13, 14, 15, 16, 17, 18, 19, 20, 21, 22, 23, 24, 25, 26, 27, 28, 29, 30, 31]) (.seq (.cond (.t 32) (.seq (.region [oI 6 (.mv (ci 13))] [0, 1, 2, 32]) (.ret)) (.region [] [32])) (.seq (.region [oI 33 (.mv (.t 0)), oI 34 (.nilc (.t 33)), oI 35 (.faddr 11 (.t 34)), oI 36 (.load (.one (.int .i64)) (.t 35)), oI 37 (.bin .add .i64 (.t 36) (ci 1)), oI 38 (.nilc (.t 33)), oI 39 (.faddr 11 (.t 38)), pI (.store 1 (.t 39) (.t 37))] [33, 34, 35, 36, 37, 38, 39]) (.seq (.region [oI 40 (.mv (.t 0)), oI 41 (.mv (.t 1)), oI 42 (.mv (.t 2)), oI 43 (.mv (.t 0)), oI 44 (.nilc (.t 43)), oI 45 (.faddr 10 (.t 44)), oJ 46 (.load (.one .slice) (.t 45)), oI 47 (.mv (.t 0)), oI 48 (.nilc (.t 47)), oI 49 (.faddr 11 (.t 48)), oJ 50 (.load (.one (.int .i64)) (.t 49)), oI 51 (.bin .sub .i64 (.t 50) (ci 1)), oI 52 (.iaddr 1 (.t 46) (.t 51)), oI 53 (.load (.one .slice) (.t 52)), oI 54 (.mv (.t 0)), oI 55 (.mkfn 134 [.t 54] []), oI 56 (.call (.f 162) [.t 40, .t 41, .t 42, .t 53, .t 55] (.one (.one (.int .i64)))), oI 6 (.mv (.t 56))] [0, 1, 2, 40, 41, 42, 43, 44, 45, 46, 47, 48, 49, 50, 51, 52, 53, 54, 55, 56]) (.ret)))))
abbrev uxe4xt1 (R : Type) := OA → Sl → Sl → AH → Option R
def uxe4xs1 (t0 : OA) (t1 t2 : Sl) : List Value := vn t0 :: t1.v :: t2.v :: un 54 []
def a_exclusion_proof_check : AFunc := ⟨57, cuxe4x, [.tmp 6]⟩
theorem ok_exclusion_proof_check : okF Tryz.prog 134 a_exclusion_proof_check = true := by kernel_rfl
def uxe4x {R : Type} (C : Callee) (fl k : Nat) (kr : uxe4xt0 R) : uxe4xt1 R := fun t0 t1 t2 h => asPtr (.pointer t0) fun p1 => ldI .i64 h p1.block (p1.off + 11) fun n2 => asPtr (.pointer t0) fun p3 => ldS h p3.block (p3.off + 10) fun s4 => if (n2 == ((s4.l : Nat) : Int)) = false then asPtr (.pointer t0) fun p5 => ldS h p5.block (p5.off + 10) fun s6 => asPtr (.pointer t0) fun p7 => ldI .i64 h p7.block (p7.off + 11) fun n8 => idx 1 s6 n8 fun p9 => ldS h p9.block p9.off fun s10 => callF C fl fn.exclusion_proof_right [.pointer t0, .slice t1.a t1.l t1.c, .slice s10.a s10.l s10.c] h fun v11 h12 => asBool v11 fun b13 => if (!b13) = true then kr 13 h12 else asPtr (.pointer t0) fun p14 => ldI .i64 h12 p14.block (p14.off + 11) fun n15 => asPtr (.pointer t0) fun p16 => st fl h12 ⟨p16.block, p16.off + 11, none⟩ [.int .i64 (w64 (n15 + 1))] fun h17 => asPtr (.pointer t0) fun p18 => ldS h17 p18.block (p18.off + 10) fun s19 => asPtr (.pointer t0) fun p20 => ldI .i64 h17 p20.block (p20.off + 11) fun n21 => idx 1 s19 (w64 (n21 - 1)) fun p22 => ldS h17 p22.block p22.off fun s23 => callF C fl fn.exclusion_proof_children [.pointer t0, .slice t1.a t1.l t1.c, .slice t2.a t2.l t2.c, .slice s23.a s23.l s23.c, .func (.func fn.exclusion_proof_check) ⟨[.pointer t0]⟩ ⟨[]⟩] h17 fun v24 h25 => asInt .i64 v24 fun n26 => kr n26 h25 else kr 13 h
theorem uxe4x_e {R} (C fl k) (K : KF R) : (cp3 uxe4xs1 (ce C fl k cuxe4x K)) = uxe4x C fl k (cp1 uxe4xs0 (K .ret)) := by kernel_rfl
def exclusion_proof_check (C : Callee) (fl k : Nat) (p0 : OA) (p1 p2 : Sl) (h : AH) : Option (Value × AH) := uxe4x C fl k (fun y6 q => some (.int .i64 y6, q)) p0 p1 p2 h
theorem exclusion_proof_check_run (C fl k) (p0 : OA) (p1 p2 : Sl) (h) : runF C fl k a_exclusion_proof_check [.pointer p0, .slice p1.a p1.l p1.c, .slice p2.a p2.l p2.c] h = exclusion_proof_check C fl k p0 p1 p2 h :=
  (runF_ce C fl k a_exclusion_proof_check [.pointer p0, .slice p1.a p1.l p1.c, .slice p2.a p2.l p2.c] h cuxe4x (uxe4xs1 p0 p1 p2) rfl (by kernel_rfl)).trans ((cp3_ap uxe4xs1 (ce C fl k cuxe4x (finalK a_exclusion_proof_check.results)) p0 p1 p2 h).symm.trans ((congrFun (congrFun (congrFun (congrFun (uxe4x_e C fl k (finalK a_exclusion_proof_check.results)) p0) p1) p2) h).trans (show uxe4x C fl k (cp1 uxe4xs0 ((finalK a_exclusion_proof_check.results) .ret)) p0 p1 p2 h = exclusion_proof_check C fl k p0 p1 p2 h by kernel_rfl)))
def d_exclusion_proof_check (C : Callee) (fl k : Nat) (args : List Value) (h : AH) : Option (Value × AH) := match args with
  | [.pointer n0, .slice n1a n1l n1c, .slice n2a n2l n2c] => exclusion_proof_check C fl k n0 ⟨n1a, n1l, n1c⟩ ⟨n2a, n2l, n2c⟩ h
  | _ => none
theorem d_exclusion_proof_check_run {C : Callee} {fl k : Nat} {args : List Value} {h : AH} {r : Value × AH} (e : d_exclusion_proof_check C fl k args h = some r) : runF C fl k a_exclusion_proof_check args h = some r := by
  unfold d_exclusion_proof_check at e
  split at e
  · rename_i n0 n1a n1l n1c n2a n2l n2c; exact (exclusion_proof_check_run C fl k n0 ⟨n1a, n1l, n1c⟩ ⟨n2a, n2l, n2c⟩ h).trans e
  · cases e
abbrev usuv9t0 (R : Type) := Bool → AH → Option R
def usuv9s0 (t2 : Bool) : List Value := un 2 (.bool t2 :: un 2 [])
def cusuv9 : ACode := .seq (.region [oI 2 (.mv (.c (.bool false)))] [2]) (.seq (.region [oI 3 (.mv (.t 0)), oI 4 (.cmp .neq .i64 (.t 3) (ci 0)), oI 2 (.mv (.t 4))] [0, 3, 4]) (.ret))
abbrev usuv9t1 (R : Type) := Int → AH → Option R
def usuv9s1 (t0 : Int) : List Value := vi t0 :: un 4 []
def a_infoset_basis_add_1 : AFunc := ⟨5, cusuv9, [.tmp 2]⟩
theorem ok_infoset_basis_add_1 : okF Tryz.prog 138 a_infoset_basis_add_1 = true := by kernel_rfl
def usuv9 {R : Type} (C : Callee) (fl k : Nat) (kr : usuv9t0 R) : usuv9t1 R := fun t0 h => kr (t0 != 0) h
theorem usuv9_e {R} (C fl k) (K : KF R) : (cp1 usuv9s1 (ce C fl k cusuv9 K)) = usuv9 C fl k (cp1 usuv9s0 (K .ret)) := by kernel_rfl
def infoset_basis_add_1 (C : Callee) (fl k : Nat) (p0 : Int) (h : AH) : Option (Value × AH) := usuv9 C fl k (fun y2 q => some (.bool y2, q)) p0 h
theorem infoset_basis_add_1_run (C fl k) (p0 : Int) (h) : runF C fl k a_infoset_basis_add_1 [.int .i64 p0] h = infoset_basis_add_1 C fl k p0 h :=
  (runF_ce C fl k a_infoset_basis_add_1 [.int .i64 p0] h cusuv9 (usuv9s1 p0) rfl (by kernel_rfl)).trans ((cp1_ap usuv9s1 (ce C fl k cusuv9 (finalK a_infoset_basis_add_1.results)) p0 h).symm.trans ((congrFun (congrFun (usuv9_e C fl k (finalK a_infoset_basis_add_1.results)) p0) h).trans (show usuv9 C fl k (cp1 usuv9s0 ((finalK a_infoset_basis_add_1.results) .ret)) p0 h = infoset_basis_add_1 C fl k p0 h by kernel_rfl)))
def d_infoset_basis_add_1 (C : Callee) (fl k : Nat) (args : List Value) (h : AH) : Option (Value × AH) := match args with
  | [.int .i64 n0] => infoset_basis_add_1 C fl k n0 h
  | _ => none
theorem d_infoset_basis_add_1_run {C : Callee} {fl k : Nat} {args : List Value} {h : AH} {r : Value × AH} (e : d_infoset_basis_add_1 C fl k args h = some r) : runF C fl k a_infoset_basis_add_1 args h = some r := by
  unfold d_infoset_basis_add_1 at e
  split at e
  · rename_i n0; exact (infoset_basis_add_1_run C fl k n0 h).trans e
  · cases e
abbrev umnlzt0 (R : Type) := Int → Int → AH → Option R
def umnlzs0 (t4 t5 : Int) : List Value := un 4 (vi t4 :: vi t5 :: un 30 [])
def cumnlz : ACode := .seq (.region [oI 4 (.mv (ci 0)), oI 5 (.mv (ci 0))] [4, 5]) (.seq (.region [oI 6 (.mv (.t 0)), oI 7 (.mv (.t 1)), oI 8 (.call (.f 144) [.t 6, .t 7] (.one (.one (.int .i64)))), oI 1 (.mv (.t 8))] [6, 7, 8]) (.seq (.region [oI 9 (.mv (.t 1)), oI 10 (.cmp .eql .i64 (.t 9) (ci 0))] [9]) (.seq (.cond (.t 10) (.seq (.region [oI 4 (.mv (ci 0)), oI 5 (.mv (ci 7))] [0, 1, 10]) (.ret)) (.region [] [10])) (.seq (.region [oI 11 (.mv (.t 0)), oI 12 (.nilc (.t 11)), oI 13 (.faddr 4 (.t 12)), oJ 14 (.load (.one .slice) (.t 13)), oI 15 (.mv (.t 0)), oI 16 (.nilc (.t 15)), oI 17 (.faddr 3 (.t 16)), oJ 18 (.load (.one (.int .i64)) (.t 17)), oI 19 (.bin .sub .i64 (.t 18) (ci 1)), oI 20 (.mv (.t 0)), oI 21 (.nilc (.t 20)), oI 22 (.faddr 5 (.t 21)), oJ 23 (.load (.one .slice) (.t 22)), oI 24 (.mv (.t 1)), oI 25 (.iaddr 1 (.t 23) (.t 24)), oJ 26 (.load (.one (.int .i64)) (.t 25)), oI 27 (.bin .sub .i64 (.t 19) (.t 26)), oI 28 (.mv (.t 0)), oI 29 (.nilc (.t 28)), oI 30 (.faddr 3 (.t 29)), oJ 31 (.load (.one (.int .i64)) (.t 30)), oI 32 (.bin .sub .i64 (.t 31) (ci 1)), oI 33 (.bin .rem .i64 (.t 27) (.t 32)), oI 34 (.iaddr 1 (.t 14) (.t 33)), oI 35 (.load (.one (.int .i64)) (.t 34)), oI 4 (.mv (.t 35)), oI 5 (.mv (ci 0))] [0, 1, 11, 12, 13, 14, 15, 16, 17, 18, 19, 20, 21, 22, 23, 24, 25, 26, 27, 28, 29, 30, 31, 32, 33, 34, 35]) (.ret)))))
abbrev umnlzt1 (R : Type) := OA → Int → AH → Option R
def umnlzs1 (t0 : OA) (t1 : Int) : List Value := vn t0 :: vi t1 :: un 34 []
def a_field_GF_Inv : AFunc := ⟨36, cumnlz, [.tmp 4, .tmp 5]⟩
theorem ok_field_GF_Inv : okF Tryz.prog 139 a_field_GF_Inv = true := by kernel_rfl
def umnlz {R : Type} (C : Callee) (fl k : Nat) (kr : umnlzt0 R) : umnlzt1 R := fun t0 t1 h => callF C fl fn.field_GF_in [.pointer t0, .int .i64 t1] h fun v1 h2 => asInt .i64 v1 fun n3 => if (n3 == 0) = true then kr 0 7 h2 else asPtr (.pointer t0) fun p4 => ldS h2 p4.block (p4.off + 4) fun s5 => asPtr (.pointer t0) fun p6 => ldI .i64 h2 p6.block (p6.off + 3) fun n7 => asPtr (.pointer t0) fun p8 => ldS h2 p8.block (p8.off + 5) fun s9 => idx 1 s9 n3 fun p10 => ldI .i64 h2 p10.block p10.off fun n11 => asPtr (.pointer t0) fun p12 => ldI .i64 h2 p12.block (p12.off + 3) fun n13 => binQ .rem .i64 (w64 (w64 (n7 - 1) - n11)) (w64 (n13 - 1)) fun n14 => idx 1 s5 n14 fun p15 => ldI .i64 h2 p15.block p15.off fun n16 => kr n16 0 h2
theorem umnlz_e {R} (C fl k) (K : KF R) : (cp2 umnlzs1 (ce C fl k cumnlz K)) = umnlz C fl k (cp2 umnlzs0 (K .ret)) := by kernel_rfl
def field_GF_Inv (C : Callee) (fl k : Nat) (p0 : OA) (p1 : Int) (h : AH) : Option (Value × AH) := umnlz C fl k (fun y4 y5 q => some (.tuple ⟨[.int .i64 y4, .int .i64 y5]⟩, q)) p0 p1 h
theorem field_GF_Inv_run (C fl k) (p0 : OA) (p1 : Int) (h) : runF C fl k a_field_GF_Inv [.pointer p0, .int .i64 p1] h = field_GF_Inv C fl k p0 p1 h :=
  (runF_ce C fl k a_field_GF_Inv [.pointer p0, .int .i64 p1] h cumnlz (umnlzs1 p0 p1) rfl (by kernel_rfl)).trans ((cp2_ap umnlzs1 (ce C fl k cumnlz (finalK a_field_GF_Inv.results)) p0 p1 h).symm.trans ((congrFun (congrFun (congrFun (umnlz_e C fl k (finalK a_field_GF_Inv.results)) p0) p1) h).trans (show umnlz C fl k (cp2 umnlzs0 ((finalK a_field_GF_Inv.results) .ret)) p0 p1 h = field_GF_Inv C fl k p0 p1 h by kernel_rfl)))
def d_field_GF_Inv (C : Callee) (fl k : Nat) (args : List Value) (h : AH) : Option (Value × AH) := match args with
  | [.pointer n0, .int .i64 n1] => field_GF_Inv C fl k n0 n1 h
  | _ => none
theorem d_field_GF_Inv_run {C : Callee} {fl k : Nat} {args : List Value} {h : AH} {r : Value × AH} (e : d_field_GF_Inv C fl k args h = some r) : runF C fl k a_field_GF_Inv args h = some r := by
  unfold d_field_GF_Inv at e
  split at e
  · rename_i n0 n1; exact (field_GF_Inv_run C fl k n0 n1 h).trans e
  · cases e
abbrev u3pgst0 (R : Type) := Sl → AH → Option R
def u3pgss0 (t6 : Sl) : List Value := un 6 (t6.v :: un 22 [])
def cu3pgs_1_2 : ACode := .seq (.region [oI 28 (.mv (.t 7)), oI 6 (.mv (.t 28))] [7, 28]) (.ret)
abbrev u3pgst1 (R : Type) := Sl → AH → Option R
def u3pgss1 (t7 : Sl) : List Value := un 7 (t7.v :: un 21 [])
abbrev u3pgst2 (R : Type) := OA → Int → Sl → Sl → Int → Int → AH → Option R
def u3pgss2 (t0 : OA) (t1 : Int) (t7 t13 : Sl) (t14 t15 : Int) : List Value := vn t0 :: vi t1 :: un 5 (t7.v :: un 5 (t13.v :: vi t14 :: vi t15 :: un 13 []))
def cu3pgs_1_b : ACode := .seq (.region [oI 16 (.cmp .lss .i64 (.t 15) (.t 14))] []) (.seq (.cond (.t 16) (.region [] [16]) (.seq (.region [] [0, 1, 13, 14, 15, 16]) (.exit 0))) (.seq (.block 1 (.seq (.region [oI 17 (.mv (.t 15)), oI 18 (.iaddr 1 (.t 13) (.t 15)), oI 19 (.load (.one (.int .i64)) (.t 18)), oI 8 (.mv (.t 17)), oI 9 (.mv (.t 19))] [17, 18, 19]) (.region [oI 20 (.mv (.t 7)), oI 21 (.mv (.t 8)), oI 22 (.mv (.t 0)), oI 23 (.mv (.t 1)), oI 24 (.mv (.t 9)), oI 25 (.call (.f 120) [.t 22, .t 23, .t 24] (.one (.one (.int .i64)))), oI 26 (.iaddr 1 (.t 20) (.t 21)), pI (.store 1 (.t 26) (.t 25))] [8, 9, 20, 21, 22, 23, 24, 25, 26]))) (.region [oI 27 (.bin .add .i64 (.t 15) (ci 1)), oI 15 (.mv (.t 27))] [27])))
def cu3pgs_1 : ACode := .seq (.block 0 (.loop cu3pgs_1_b)) cu3pgs_1_2
def gcu3pgs (cn : ACode) : ACode := .seq (.seq (.region [oI 6 (.mv (.c (.slice none 0 0)))] [6]) (.seq (.region [oI 10 (.mv (.t 2)), oI 11 (.len (.t 10)), oI 12 (.mkslice 8 [.int .i64 0] (.t 11) (.t 11)), oI 7 (.mv (.t 12))] [10, 11, 12]) (.region [oI 13 (.mv (.t 2)), oI 14 (.len (.t 13)), oI 15 (.mv (ci 0))] [2]))) cn
def cu3pgs : ACode := gcu3pgs cu3pgs_1
abbrev u3pgst3 (R : Type) := OA → Int → Sl → AH → Option R
def u3pgss3 (t0 : OA) (t1 : Int) (t2 : Sl) : List Value := vn t0 :: vi t1 :: t2.v :: un 26 []
def a_field_GF_Scale : AFunc := ⟨29, cu3pgs, [.tmp 6]⟩
theorem ok_field_GF_Scale : okF Tryz.prog 140 a_field_GF_Scale = true := by kernel_rfl
def u3pgs_1_2 {R : Type} (C : Callee) (fl k : Nat) (kr : u3pgst0 R) : u3pgst1 R := fun t7 h => kr t7 h
theorem u3pgs_1_2_e {R} (C fl k) (K : KF R) : (cp1 u3pgss1 (ce C fl k cu3pgs_1_2 K)) = u3pgs_1_2 C fl k (cp1 u3pgss0 (K .ret)) := by kernel_rfl
def u3pgs_1_b {R : Type} (C : Callee) (fl k : Nat) (kn : u3pgst2 R) (e0 : u3pgst1 R) : u3pgst2 R := fun t0 t1 t7 t13 t14 t15 h => if decide (t15 < t14) = true then idx 1 t13 t15 fun p1 => ldI .i64 h p1.block p1.off fun n2 => callF C fl fn.field_GF_Mul [.pointer t0, .int .i64 t1, .int .i64 n2] h fun v3 h4 => asInt .i64 v3 fun n5 => idx 1 t7 t15 fun p6 => st fl h4 p6 [.int .i64 n5] fun h7 => kn t0 t1 t7 t13 t14 (w64 (t15 + 1)) h7 else e0 t7 h
theorem u3pgs_1_b_e {R} (C fl k) (K : KF R) : (cp6 u3pgss2 (ce C fl k cu3pgs_1_b K)) = u3pgs_1_b C fl k (cp6 u3pgss2 (K .normal)) (cp1 u3pgss1 (K (.exit 0))) := by kernel_rfl
def u3pgs_1_l {R : Type} (C : Callee) (fl k : Nat) (kn : u3pgst1 R) : Nat → u3pgst2 R
  | 0 => fun _ _ _ _ _ _ _ => none
  | m + 1 => u3pgs_1_b C fl k (u3pgs_1_l C fl k kn m) kn
theorem u3pgs_1_l_p {R} (C fl k) (K : KF R) : ∀ m, (cp6 u3pgss2 (loopK m (kstep C fl k cu3pgs_1_b 0 K))) = u3pgs_1_l C fl k (cp1 u3pgss1 (K .normal)) m
  | 0 => by kernel_rfl
  | m + 1 => (congr1 (fun g => (cp6 u3pgss2 (g))) (loop_ce C fl k cu3pgs_1_b 0 K m)).trans ((u3pgs_1_b_e C fl k _).trans (congr1 (fun L => u3pgs_1_b C fl k L (cp1 u3pgss1 (K .normal))) (u3pgs_1_l_p C fl k K m)))
theorem u3pgs_1_l_e {R} (C fl k) (K : KF R) : (cp6 u3pgss2 (ce C fl k (.block 0 (.loop cu3pgs_1_b)) K)) = u3pgs_1_l C fl k (cp1 u3pgss1 (K .normal)) k := (congr1 (fun g => (cp6 u3pgss2 (g))) (ce_loop C fl k cu3pgs_1_b 0 K)).trans (u3pgs_1_l_p C fl k K k)
def u3pgs_1 {R : Type} (C : Callee) (fl k : Nat) (kr : u3pgst0 R) : u3pgst2 R := u3pgs_1_l C fl k (u3pgs_1_2 C fl k kr) k
theorem u3pgs_1_e {R} (C fl k) (K : KF R) : (cp6 u3pgss2 (ce C fl k cu3pgs_1 K)) = u3pgs_1 C fl k (cp1 u3pgss0 (K .ret)) := ((congr1 (fun g => (cp6 u3pgss2 (g))) (ce_seq C fl k _ _ K)).trans (u3pgs_1_l_e C fl k (kseq C fl k cu3pgs_1_2 K))).trans (congr1 (fun L => u3pgs_1_l C fl k L k) ((congr1 (fun g => (cp1 u3pgss1 (g))) (seq_n C fl k cu3pgs_1_2 K)).trans (u3pgs_1_2_e C fl k K)))
def u3pgsF {R : Type} (C : Callee) (fl k : Nat) (kx : u3pgst2 R)  (kr : u3pgst0 R) : u3pgst3 R := fun t0 t1 t2 h => mkSl 8 [.int .i64 0] ((t2.l : Nat) : Int) ((t2.l : Nat) : Int) h fun s8 h9 => kx t0 t1 s8 t2 ((t2.l : Nat) : Int) 0 h9
def u3pgs {R : Type} (C : Callee) (fl k : Nat) (kr : u3pgst0 R) : u3pgst3 R := u3pgsF C fl k (u3pgs_1 C fl k kr)  kr
theorem u3pgs_g {R} (C fl k) (cn : ACode) (K : KF R) : (cp3 u3pgss3 (ce C fl k (gcu3pgs cn) K)) = u3pgsF C fl k (cp6 u3pgss2 (ce C fl k cn K)) (cp1 u3pgss0 (K .ret)) := by kernel_rfl
theorem u3pgs_e {R} (C fl k) (K : KF R) : (cp3 u3pgss3 (ce C fl k cu3pgs K)) = u3pgs C fl k (cp1 u3pgss0 (K .ret)) := (u3pgs_g C fl k cu3pgs_1 K).trans (congr1 (fun L0 => u3pgsF C fl k L0 (cp1 u3pgss0 (K .ret))) (u3pgs_1_e C fl k K))
def field_GF_Scale (C : Callee) (fl k : Nat) (p0 : OA) (p1 : Int) (p2 : Sl) (h : AH) : Option (Value × AH) := u3pgs C fl k (fun y6 q => some (.slice y6.a y6.l y6.c, q)) p0 p1 p2 h
theorem field_GF_Scale_run (C fl k) (p0 : OA) (p1 : Int) (p2 : Sl) (h) : runF C fl k a_field_GF_Scale [.pointer p0, .int .i64 p1, .slice p2.a p2.l p2.c] h = field_GF_Scale C fl k p0 p1 p2 h :=
  (runF_ce C fl k a_field_GF_Scale [.pointer p0, .int .i64 p1, .slice p2.a p2.l p2.c] h cu3pgs (u3pgss3 p0 p1 p2) rfl (by kernel_rfl)).trans ((cp3_ap u3pgss3 (ce C fl k cu3pgs (finalK a_field_GF_Scale.results)) p0 p1 p2 h).symm.trans ((congrFun (congrFun (congrFun (congrFun (u3pgs_e C fl k (finalK a_field_GF_Scale.results)) p0) p1) p2) h).trans (show u3pgs C fl k (cp1 u3pgss0 ((finalK a_field_GF_Scale.results) .ret)) p0 p1 p2 h = field_GF_Scale C fl k p0 p1 p2 h by kernel_rfl)))
def d_field_GF_Scale (C : Callee) (fl k : Nat) (args : List Value) (h : AH) : Option (Value × AH) := match args with
  | [.pointer n0, .int .i64 n1, .slice n2a n2l n2c] => field_GF_Scale C fl k n0 n1 ⟨n2a, n2l, n2c⟩ h
  | _ => none
theorem d_field_GF_Scale_run {C : Callee} {fl k : Nat} {args : List Value} {h : AH} {r : Value × AH} (e : d_field_GF_Scale C fl k args h = some r) : runF C fl k a_field_GF_Scale args h = some r := by
  unfold d_field_GF_Scale at e
  split at e
  · rename_i n0 n1 n2a n2l n2c; exact (field_GF_Scale_run C fl k n0 n1 ⟨n2a, n2l, n2c⟩ h).trans e
  · cases e
end Go.Abs.P
