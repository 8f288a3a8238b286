/- Shell: pieces of the functions that ShellTells reaches (written by GenShell.lean). -/
import Derived.Test.YtgpeieohdelniaaGreatDoorShAwake
namespace Go.Am.Sh
open Go Go.RowKit Go.Am Go.Proofs
set_option maxRecDepth 100000
/-! 34 larch/shell.decimal -/
theorem F34_eq (n : Nat) (x0 : Int) (h : St) : acall adraw E P (n + 1) 34 [(.int .i64 x0)] h =
 (obind (acall adraw E P n 43 [(.int .i64 x0)] h) fun k0 =>
 (obind (vStr k0.1) fun t1 =>
 (some ((.string t1), k0.2)))) := by kernel_rfl
/-! 35 larch/shell.yes -/
theorem F35_eq (n : Nat) (b0 : Bool) (h : St) : acall adraw E P (n + 1) 35 [(.bool b0)] h =
 (bcond b0
 (some ((.string ⟨#[121, 101, 115]⟩), h))
 (some ((.string ⟨#[110, 111]⟩), h))) := by kernel_rfl
/-! 36 larch/shell.pair -/
theorem F36_eq (n : Nat) (x0 : Int) (x1 : Int) (h : St) : acall adraw E P (n + 1) 36 [(.int .i64 x0), (.int .i64 x1)] h =
 (obind (acall adraw E P n 34 [(.int .i64 x0)] h) fun k0 =>
 (obind (vStr k0.1) fun t1 =>
 (obind (scat t1 ⟨#[58]⟩) fun t2 =>
 (obind (acall adraw E P n 34 [(.int .i64 x1)] k0.2) fun k3 =>
 (obind (vStr k3.1) fun t4 =>
 (obind (scat t2 t4) fun t5 =>
 (some ((.string t5), k3.2)))))))) := by kernel_rfl
/-! 38 larch/larchref28.Number -/
noncomputable def L38_0 (n : Nat) (m0 : Nat) (x0 : Int) (s3 : ByteArray) (x4 : Int) (d : Nat → Value) (h : St) : Option (Value × St) :=
  segLoop adraw E P n fi38 [1, 1, 1, 0, 1, 0] [] m0 [(.int .i64 x0), (d 1), (d 2), (.string s3), (.int .i64 x4), (d 5), (d 6), (d 7), (d 8), (d 9), (d 10), (d 11), (d 12), (d 13), (d 14), (d 15), (d 16), (d 17), (d 18), (d 19), (d 20), (d 21), (d 22), (d 23), (d 24), (d 25), (d 26), (d 27), (d 28), (d 29), (d 30)] h
noncomputable def A38_1 (n : Nat) (x0 : Int) (s3 : ByteArray) (d : Nat → Value) (h : St) : Option (Value × St) :=
  segAt adraw E P n fi38 [1, 1, 1, 1] [] [(.int .i64 x0), (d 1), (d 2), (.string s3), (d 4), (d 5), (d 6), (d 7), (d 8), (d 9), (d 10), (d 11), (d 12), (d 13), (d 14), (d 15), (d 16), (d 17), (d 18), (d 19), (d 20), (d 21), (d 22), (d 23), (d 24), (d 25), (d 26), (d 27), (d 28), (d 29), (d 30)] h
theorem L38_0_eq (n : Nat) (m0 : Nat) (x0 : Int) (s3 : ByteArray) (x4 : Int) (d : Nat → Value) (h : St) : L38_0 n (m0 + 1) x0 s3 x4 d h =
 (bcond (bnot (ieq x4 0))
 (obind (wrem x4 10) fun i0 =>
 (bcond (ilt i0 0)
 (obind (sbytes (h.new (.arr false 1 0 [(.int .u8 (wconv .u8 (wadd .i64 48 (wsub .i64 0 i0))))])) (.slice (some ⟨h.next, 0, none⟩) 1 0)) fun t1 =>
 (obind (scat t1 s3) fun t2 =>
 (obind (wquo .i64 x4 10) fun i3 =>
 (L38_0 n m0 x0 t2 i3 (dd [(.int .i64 x0), (d 1), (d 2), (.string t2), (.int .i64 i3), (.int .i64 (wsub .i64 0 i0)), (d 6), (d 7), (d 8), (.int .i64 x4), (.bool true), (.int .i64 x4), (.int .i64 i3), (.int .i64 x4), (.int .i64 i0), (.int .i64 i0), (.bool true), (.int .i64 i0), (.int .i64 (wsub .i64 0 i0)), (.int .i64 (wsub .i64 0 i0)), (.int .i64 (wadd .i64 48 (wsub .i64 0 i0))), (.int .u8 (wconv .u8 (wadd .i64 48 (wsub .i64 0 i0)))), (.slice (some ⟨h.next, 0, none⟩) 1 0), (.string t1), (.string s3), (.string t2), (d 26), (d 27), (d 28), (d 29), (d 30)]) (h.new (.arr false 1 0 [(.int .u8 (wconv .u8 (wadd .i64 48 (wsub .i64 0 i0))))]))))))
 (obind (sbytes (h.new (.arr false 1 0 [(.int .u8 (wconv .u8 (wadd .i64 48 i0)))])) (.slice (some ⟨h.next, 0, none⟩) 1 0)) fun t4 =>
 (obind (scat t4 s3) fun t5 =>
 (obind (wquo .i64 x4 10) fun i6 =>
 (L38_0 n m0 x0 t5 i6 (dd [(.int .i64 x0), (d 1), (d 2), (.string t5), (.int .i64 i6), (.int .i64 i0), (d 6), (d 7), (d 8), (.int .i64 x4), (.bool true), (.int .i64 x4), (.int .i64 i6), (.int .i64 x4), (.int .i64 i0), (.int .i64 i0), (.bool false), (d 17), (d 18), (.int .i64 i0), (.int .i64 (wadd .i64 48 i0)), (.int .u8 (wconv .u8 (wadd .i64 48 i0))), (.slice (some ⟨h.next, 0, none⟩) 1 0), (.string t4), (.string s3), (.string t5), (d 26), (d 27), (d 28), (d 29), (d 30)]) (h.new (.arr false 1 0 [(.int .u8 (wconv .u8 (wadd .i64 48 i0)))]))))))))
 (A38_1 n x0 s3 (dd [(.int .i64 x0), (d 1), (d 2), (.string s3), (.int .i64 x4), (d 5), (d 6), (d 7), (d 8), (.int .i64 x4), (.bool false), (d 11), (d 12), (d 13), (d 14), (d 15), (d 16), (d 17), (d 18), (d 19), (d 20), (d 21), (d 22), (d 23), (d 24), (d 25), (d 26), (d 27), (d 28), (d 29), (d 30)]) h)) := by kernel_rfl
theorem A38_1_eq (n : Nat) (x0 : Int) (s3 : ByteArray) (d : Nat → Value) (h : St) : A38_1 n x0 s3 d h =
 (bcond (ilt x0 0)
 (obind (scat ⟨#[45]⟩ s3) fun t0 =>
 (some ((.string t0), h)))
 (some ((.string s3), h))) := by kernel_rfl
theorem F38_eq (n : Nat) (x0 : Int) (h : St) : acall adraw E P (n + 1) 38 [(.int .i64 x0)] h =
 (bcond (ieq x0 0)
 (some ((.string ⟨#[48]⟩), h))
 (L38_0 n n x0 ⟨#[]⟩ x0 (dd [(.int .i64 x0), undef, (.string ⟨#[]⟩), (.string ⟨#[]⟩), (.int .i64 x0), undef, (.int .i64 x0), (.bool false), (.int .i64 x0), undef, undef, undef, undef, undef, undef, undef, undef, undef, undef, undef, undef, undef, undef, undef, undef, undef, undef, undef, undef, undef, undef]) h)) := by kernel_rfl
/-! 39 larch/larchref28.pair -/
theorem F39_eq (n : Nat) (x0_0 : Int) (x0_1 : Int) (h : St) : acall adraw E P (n + 1) 39 [(.agg #[(.int .i64 x0_0), (.int .i64 x0_1)])] h =
 (obind (acall adraw E P n 38 [(.int .i64 x0_0)] h) fun k0 =>
 (obind (vStr k0.1) fun t1 =>
 (obind (scat t1 ⟨#[58]⟩) fun t2 =>
 (obind (acall adraw E P n 38 [(.int .i64 x0_1)] k0.2) fun k3 =>
 (obind (vStr k3.1) fun t4 =>
 (obind (scat t2 t4) fun t5 =>
 (some ((.string t5), k3.2)))))))) := by kernel_rfl
/-! 42 larch/shell.forms -/
theorem F42_eq (n : Nat)  (h : St) : acall adraw E P (n + 1) 42 [] h =
 (obind (mput (h.new (.map false [])) (.int .i64) (.map (some h.next)) (.int .i64 1) (.agg #[(.string ⟨#[103, 101, 116]⟩), (.int .i64 1)])) fun h0 =>
 (obind (mput h0 (.int .i64) (.map (some h.next)) (.int .i64 2) (.agg #[(.string ⟨#[112, 117, 116]⟩), (.int .i64 2)])) fun h1 =>
 (obind (mput h1 (.int .i64) (.map (some h.next)) (.int .i64 3) (.agg #[(.string ⟨#[105, 102, 97, 98, 115, 101, 110, 116]⟩), (.int .i64 2)])) fun h2 =>
 (obind (mput h2 (.int .i64) (.map (some h.next)) (.int .i64 4) (.agg #[(.string ⟨#[100, 101, 108, 101, 116, 101]⟩), (.int .i64 1)])) fun h3 =>
 (obind (mput h3 (.int .i64) (.map (some h.next)) (.int .i64 5) (.agg #[(.string ⟨#[97, 102, 116, 101, 114]⟩), (.int .i64 1)])) fun h4 =>
 (obind (mput h4 (.int .i64) (.map (some h.next)) (.int .i64 6) (.agg #[(.string ⟨#[98, 101, 102, 111, 114, 101]⟩), (.int .i64 1)])) fun h5 =>
 (obind (mput h5 (.int .i64) (.map (some h.next)) (.int .i64 7) (.agg #[(.string ⟨#[109, 105, 110]⟩), (.int .i64 0)])) fun h6 =>
 (obind (mput h6 (.int .i64) (.map (some h.next)) (.int .i64 8) (.agg #[(.string ⟨#[109, 97, 120]⟩), (.int .i64 0)])) fun h7 =>
 (obind (mput h7 (.int .i64) (.map (some h.next)) (.int .i64 9) (.agg #[(.string ⟨#[114, 97, 110, 103, 101]⟩), (.int .i64 2)])) fun h8 =>
 (some ((.map (some h.next)), h8))))))))))) := by kernel_rfl
/-! 45 larch/larchref28.word -/
theorem F45_eq (n : Nat) (x0 : Int) (h : St) : acall adraw E P (n + 1) 45 [(.int .i64 x0)] h =
 (bcond (ieq x0 1)
 (some ((.tuple #[(.string ⟨#[103, 101, 116]⟩), (.int .i64 1)]), h))
 (bcond (ieq x0 2)
 (some ((.tuple #[(.string ⟨#[112, 117, 116]⟩), (.int .i64 2)]), h))
 (bcond (ieq x0 3)
 (some ((.tuple #[(.string ⟨#[105, 102, 97, 98, 115, 101, 110, 116]⟩), (.int .i64 2)]), h))
 (bcond (ieq x0 4)
 (some ((.tuple #[(.string ⟨#[100, 101, 108, 101, 116, 101]⟩), (.int .i64 1)]), h))
 (bcond (ieq x0 5)
 (some ((.tuple #[(.string ⟨#[97, 102, 116, 101, 114]⟩), (.int .i64 1)]), h))
 (bcond (ieq x0 6)
 (some ((.tuple #[(.string ⟨#[98, 101, 102, 111, 114, 101]⟩), (.int .i64 1)]), h))
 (bcond (ieq x0 7)
 (some ((.tuple #[(.string ⟨#[109, 105, 110]⟩), (.int .i64 0)]), h))
 (bcond (ieq x0 8)
 (some ((.tuple #[(.string ⟨#[109, 97, 120]⟩), (.int .i64 0)]), h))
 (bcond (ieq x0 9)
 (some ((.tuple #[(.string ⟨#[114, 97, 110, 103, 101]⟩), (.int .i64 2)]), h))
 (some ((.tuple #[(.string ⟨#[]⟩), (.int .i64 0)]), h))))))))))) := by kernel_rfl
/-! 18 larch/shell.PrintOp -/
noncomputable def L18_0 (n : Nat) (m0 : Nat) (f6 : Option Addr) (l6 : Nat) (g6 : Nat) (f35 : Option Addr) (l35 : Nat) (g35 : Nat) (x36 : Int) (x37 : Int) (d : Nat → Value) (h : St) : Option (Value × St) :=
  segLoop adraw E P n fi18 [1, 1, 1, 1, 1, 1, 0, 1, 0] [] m0 [(d 0), (d 1), (d 2), (d 3), (d 4), (d 5), (.slice f6 l6 g6), (d 7), (d 8), (d 9), (d 10), (d 11), (d 12), (d 13), (d 14), (d 15), (d 16), (d 17), (d 18), (d 19), (d 20), (d 21), (d 22), (d 23), (d 24), (d 25), (d 26), (d 27), (d 28), (d 29), (d 30), (d 31), (d 32), (d 33), (d 34), (.slice f35 l35 g35), (.int .i64 x36), (.int .i64 x37), (d 38), (d 39), (d 40), (d 41), (d 42), (d 43), (d 44), (d 45), (d 46), (d 47), (d 48)] h
noncomputable def A18_1 (n : Nat) (f6 : Option Addr) (l6 : Nat) (g6 : Nat) (d : Nat → Value) (h : St) : Option (Value × St) :=
  segAt adraw E P n fi18 [1, 1, 1, 1, 1, 1, 1] [] [(d 0), (d 1), (d 2), (d 3), (d 4), (d 5), (.slice f6 l6 g6), (d 7), (d 8), (d 9), (d 10), (d 11), (d 12), (d 13), (d 14), (d 15), (d 16), (d 17), (d 18), (d 19), (d 20), (d 21), (d 22), (d 23), (d 24), (d 25), (d 26), (d 27), (d 28), (d 29), (d 30), (d 31), (d 32), (d 33), (d 34), (d 35), (d 36), (d 37), (d 38), (d 39), (d 40), (d 41), (d 42), (d 43), (d 44), (d 45), (d 46), (d 47), (d 48)] h
theorem L18_0_eq (n : Nat) (m0 : Nat) (f6 : Option Addr) (l6 : Nat) (g6 : Nat) (f35 : Option Addr) (l35 : Nat) (g35 : Nat) (x36 : Int) (x37 : Int) (d : Nat → Value) (h : St) : L18_0 n (m0 + 1) f6 l6 g6 f35 l35 g35 x36 x37 d h =
 (bcond (ilt x37 x36)
 (obind (sidxA 1 (.slice f35 l35 g35) x37) fun a0 =>
 (obind (ld1 h (.pointer (some a0))) fun v1 =>
 (obind (vInt .i64 v1) fun i2 =>
 (obind (acall adraw E P n 43 [(.int .i64 i2)] h) fun k3 =>
 (obind (vStr k3.1) fun t4 =>
 (obind (sapp (k3.2.new (.arr false 1 0 [(.string t4)])) 1 16 (.slice f6 l6 g6) (.slice (some ⟨k3.2.next, 0, none⟩) 1 0)) fun k5 =>
 (obind (vSl k5.1) fun e6 =>
 (L18_0 n m0 e6.1 e6.2.1 e6.2.2 f35 l35 g35 x36 (wadd .i64 x37 1) (dd [(d 0), (d 1), (d 2), (d 3), (d 4), (d 5), (.slice e6.1 e6.2.1 e6.2.2), (d 7), (d 8), (.int .i64 i2), (d 10), (d 11), undef, (d 13), (d 14), (d 15), (d 16), (d 17), (d 18), undef, (d 20), (d 21), undef, (d 23), undef, (d 25), (d 26), undef, (d 28), undef, (d 30), (d 31), (d 32), undef, (d 34), (.slice f35 l35 g35), (.int .i64 x36), (.int .i64 (wadd .i64 x37 1)), (.bool true), (.pointer (some a0)), (.int .i64 i2), (.slice f6 l6 g6), (.int .i64 i2), (.string t4), (.slice (some ⟨k3.2.next, 0, none⟩) 1 0), (.slice e6.1 e6.2.1 e6.2.2), (.int .i64 (wadd .i64 x37 1)), (d 47), (d 48)]) k5.2))))))))
 (A18_1 n f6 l6 g6 (dd [(d 0), (d 1), (d 2), (d 3), (d 4), (d 5), (.slice f6 l6 g6), (d 7), (d 8), (d 9), (d 10), (d 11), undef, (d 13), (d 14), (d 15), (d 16), (d 17), (d 18), undef, (d 20), (d 21), undef, (d 23), undef, (d 25), (d 26), undef, (d 28), undef, (d 30), (d 31), (d 32), undef, (d 34), (.slice f35 l35 g35), (.int .i64 x36), (.int .i64 x37), (.bool false), (d 39), (d 40), (d 41), (d 42), (d 43), (d 44), (d 45), (d 46), (d 47), (d 48)]) h)) := by kernel_rfl
theorem A18_1_eq (n : Nat) (f6 : Option Addr) (l6 : Nat) (g6 : Nat) (d : Nat → Value) (h : St) : A18_1 n f6 l6 g6 d h =
 (obind (acall adraw E P n 44 [(.slice f6 l6 g6), (.string ⟨#[32]⟩)] h) fun k0 =>
 (obind (vStr k0.1) fun t1 =>
 (some ((.tuple #[(.string t1), (.int .i64 0)]), k0.2)))) := by kernel_rfl
theorem F18_eq (n : Nat) (x0_0 : Int) (x0_1 : Int) (x0_2 : Int) (x0_3 : Int) (h : St) : acall adraw E P (n + 1) 18 [(.agg #[(.int .i64 x0_0), (.int .i64 x0_1), (.int .i64 x0_2), (.int .i64 x0_3)])] h =
 (obind (acall adraw E P n 42 [] h) fun k0 =>
 (obind (vMap k0.1) fun u1 =>
 (obind (mlookD k0.2 (.int .i64) (.agg #[(.string ⟨#[]⟩), (.int .i64 0)]) (.map u1) (.int .i64 x0_0)) fun k2 =>
 (obind (vAgg 2 k2.1) fun w3 =>
 (obind (vStr (w3.getD 0 undef)) fun t4 =>
 (obind (vInt .i64 (w3.getD 1 undef)) fun i5 =>
 (bcond (bnot k2.2)
 (some ((.tuple #[(.string ⟨#[]⟩), (.int .i64 5)]), k0.2))
 (bcond (ieq x0_0 9)
 (obind (scut ((k0.2.new (.arr false 1 0 [(.string t4)])).new (.arr false 1 0 [(.int .i64 x0_1), (.int .i64 x0_3)])) 1 (.slice (some ⟨(k0.2.new (.arr false 1 0 [(.string t4)])).next, 0, none⟩) 2 0) none (some (.int .i64 i5))) fun v6 =>
 (obind (vSl v6) fun e7 =>
 (L18_0 n n (some ⟨k0.2.next, 0, none⟩) 1 0 e7.1 e7.2.1 e7.2.2 (e7.2.1 : Nat) 0 (dd [(.agg #[(.int .i64 x0_0), (.int .i64 x0_1), (.int .i64 x0_2), (.int .i64 x0_3)]), (.agg #[(.int .i64 x0_0), (.int .i64 x0_1), (.int .i64 x0_2), (.int .i64 x0_3)]), (.string ⟨#[]⟩), (.int .i64 0), (.agg #[(.string t4), (.int .i64 i5)]), (.bool k2.2), (.slice (some ⟨k0.2.next, 0, none⟩) 1 0), (.int .i64 x0_3), undef, undef, (.tuple #[(.agg #[(.string t4), (.int .i64 i5)]), (.bool k2.2)]), (.map u1), undef, (.int .i64 x0_0), (.tuple #[(.agg #[(.string t4), (.int .i64 i5)]), (.bool k2.2)]), (.agg #[(.string t4), (.int .i64 i5)]), (.bool k2.2), (.bool k2.2), (.bool false), undef, (.string t4), (.slice (some ⟨k0.2.next, 0, none⟩) 1 0), undef, (.int .i64 x0_2), undef, (.int .i64 x0_0), (.bool true), undef, (.int .i64 x0_3), (.complex .f32 1 1), (.int .i64 x0_1), (.int .i64 x0_3), (.slice (some ⟨(k0.2.new (.arr false 1 0 [(.string t4)])).next, 0, none⟩) 2 0), (.complex .f32 4 1), (.int .i64 i5), (.slice e7.1 e7.2.1 e7.2.2), (.int .i64 (e7.2.1 : Nat)), (.int .i64 0), undef, undef, undef, undef, undef, undef, undef, undef, undef, undef, undef]) ((k0.2.new (.arr false 1 0 [(.string t4)])).new (.arr false 1 0 [(.int .i64 x0_1), (.int .i64 x0_3)])))))
 (obind (scut ((k0.2.new (.arr false 1 0 [(.string t4)])).new (.arr false 1 0 [(.int .i64 x0_1), (.int .i64 x0_2)])) 1 (.slice (some ⟨(k0.2.new (.arr false 1 0 [(.string t4)])).next, 0, none⟩) 2 0) none (some (.int .i64 i5))) fun v8 =>
 (obind (vSl v8) fun e9 =>
 (L18_0 n n (some ⟨k0.2.next, 0, none⟩) 1 0 e9.1 e9.2.1 e9.2.2 (e9.2.1 : Nat) 0 (dd [(.agg #[(.int .i64 x0_0), (.int .i64 x0_1), (.int .i64 x0_2), (.int .i64 x0_3)]), (.agg #[(.int .i64 x0_0), (.int .i64 x0_1), (.int .i64 x0_2), (.int .i64 x0_3)]), (.string ⟨#[]⟩), (.int .i64 0), (.agg #[(.string t4), (.int .i64 i5)]), (.bool k2.2), (.slice (some ⟨k0.2.next, 0, none⟩) 1 0), (.int .i64 x0_2), undef, undef, (.tuple #[(.agg #[(.string t4), (.int .i64 i5)]), (.bool k2.2)]), (.map u1), undef, (.int .i64 x0_0), (.tuple #[(.agg #[(.string t4), (.int .i64 i5)]), (.bool k2.2)]), (.agg #[(.string t4), (.int .i64 i5)]), (.bool k2.2), (.bool k2.2), (.bool false), undef, (.string t4), (.slice (some ⟨k0.2.next, 0, none⟩) 1 0), undef, (.int .i64 x0_2), undef, (.int .i64 x0_0), (.bool false), undef, undef, (.complex .f32 1 1), (.int .i64 x0_1), (.int .i64 x0_2), (.slice (some ⟨(k0.2.new (.arr false 1 0 [(.string t4)])).next, 0, none⟩) 2 0), (.complex .f32 4 1), (.int .i64 i5), (.slice e9.1 e9.2.1 e9.2.2), (.int .i64 (e9.2.1 : Nat)), (.int .i64 0), undef, undef, undef, undef, undef, undef, undef, undef, undef, undef, undef]) ((k0.2.new (.arr false 1 0 [(.string t4)])).new (.arr false 1 0 [(.int .i64 x0_1), (.int .i64 x0_2)]))))))))))))) := by kernel_rfl
/-! 19 larch/larchref28.PrintOp -/
theorem F19_eq (n : Nat) (x0_0 : Int) (x0_1 : Int) (x0_2 : Int) (x0_3 : Int) (h : St) : acall adraw E P (n + 1) 19 [(.agg #[(.int .i64 x0_0), (.int .i64 x0_1), (.int .i64 x0_2), (.int .i64 x0_3)])] h =
 (obind (acall adraw E P n 45 [(.int .i64 x0_0)] h) fun k0 =>
 (obind (vTup 2 k0.1) fun w1 =>
 (obind (vStr (w1.getD 0 undef)) fun t2 =>
 (obind (vInt .i64 (w1.getD 1 undef)) fun i3 =>
 (bcond (seq t2 ⟨#[]⟩)
 (some ((.string ⟨#[]⟩), k0.2))
 (bcond (ilt 0 i3)
 (obind (acall adraw E P n 38 [(.int .i64 x0_1)] k0.2) fun k4 =>
 (obind (vStr k4.1) fun t5 =>
 (obind (scat ⟨#[32]⟩ t5) fun t6 =>
 (obind (scat t2 t6) fun t7 =>
 (bcond (ieq i3 2)
 (bcond (ieq x0_0 9)
 (obind (scat t7 ⟨#[32]⟩) fun t8 =>
 (obind (acall adraw E P n 38 [(.int .i64 x0_3)] k4.2) fun k9 =>
 (obind (vStr k9.1) fun t10 =>
 (obind (scat t8 t10) fun t11 =>
 (some ((.string t11), k9.2))))))
 (bcond (ieq i3 2)
 (obind (scat t7 ⟨#[32]⟩) fun t12 =>
 (obind (acall adraw E P n 38 [(.int .i64 x0_2)] k4.2) fun k13 =>
 (obind (vStr k13.1) fun t14 =>
 (obind (scat t12 t14) fun t15 =>
 (some ((.string t15), k13.2))))))
 (some ((.string t7), k4.2))))
 (bcond (ieq i3 2)
 (obind (scat t7 ⟨#[32]⟩) fun t16 =>
 (obind (acall adraw E P n 38 [(.int .i64 x0_2)] k4.2) fun k17 =>
 (obind (vStr k17.1) fun t18 =>
 (obind (scat t16 t18) fun t19 =>
 (some ((.string t19), k17.2))))))
 (some ((.string t7), k4.2))))))))
 (bcond (ieq i3 2)
 (bcond (ieq x0_0 9)
 (obind (scat t2 ⟨#[32]⟩) fun t20 =>
 (obind (acall adraw E P n 38 [(.int .i64 x0_3)] k0.2) fun k21 =>
 (obind (vStr k21.1) fun t22 =>
 (obind (scat t20 t22) fun t23 =>
 (some ((.string t23), k21.2))))))
 (bcond (ieq i3 2)
 (obind (scat t2 ⟨#[32]⟩) fun t24 =>
 (obind (acall adraw E P n 38 [(.int .i64 x0_2)] k0.2) fun k25 =>
 (obind (vStr k25.1) fun t26 =>
 (obind (scat t24 t26) fun t27 =>
 (some ((.string t27), k25.2))))))
 (some ((.string t2), k0.2))))
 (bcond (ieq i3 2)
 (obind (scat t2 ⟨#[32]⟩) fun t28 =>
 (obind (acall adraw E P n 38 [(.int .i64 x0_2)] k0.2) fun k29 =>
 (obind (vStr k29.1) fun t30 =>
 (obind (scat t28 t30) fun t31 =>
 (some ((.string t31), k29.2))))))
 (some ((.string t2), k0.2)))))))))) := by kernel_rfl
/-! 11 larch/shell.Tell -/
theorem F11_eq (n : Nat) (x0_0 : Int) (b0_1 : Bool) (x0_2 : Int) (x0_3 : Int) (x0_4 : Int) (x0_5 : Int) (b0_6 : Bool) (x0_7 : Int) (x0_8 : Int) (f0_9 : Option Addr) (l0_9 : Nat) (g0_9 : Nat) (h : St) : acall adraw E P (n + 1) 11 [(.agg #[(.int .i64 x0_0), (.bool b0_1), (.int .i64 x0_2), (.int .i64 x0_3), (.int .i64 x0_4), (.int .i64 x0_5), (.bool b0_6), (.int .i64 x0_7), (.int .i64 x0_8), (.slice f0_9 l0_9 g0_9)])] h =
 (obind (acall adraw E P n 18 [(.agg #[(.int .i64 x0_2), (.int .i64 x0_3), (.int .i64 x0_4), (.int .i64 x0_5)])] h) fun k0 =>
 (obind (vTup 2 k0.1) fun w1 =>
 (obind (vStr (w1.getD 0 undef)) fun t2 =>
 (obind (vInt .i64 (w1.getD 1 undef)) fun i3 =>
 (bcond (bnot (ieq i3 0))
 (obind (acall adraw E P n 34 [(.int .i64 x0_2)] k0.2) fun k4 =>
 (obind (vStr k4.1) fun t5 =>
 (obind (scat ⟨#[107, 105, 110, 100, 32]⟩ t5) fun t6 =>
 (obind (acall adraw E P n 34 [(.int .i64 x0_0)] k4.2) fun k7 =>
 (obind (vStr k7.1) fun t8 =>
 (obind (scat ⟨#[116]⟩ t8) fun t9 =>
 (obind (scat t9 ⟨#[32]⟩) fun t10 =>
 (obind (scat t10 t6) fun t11 =>
 (bcond (bnot b0_1)
 (some ((.string t11), k7.2))
 (obind (acall adraw E P n 35 [(.bool b0_6)] k7.2) fun k12 =>
 (obind (vStr k12.1) fun t13 =>
 (obind (scat ⟨#[32, 45, 62, 32]⟩ t13) fun t14 =>
 (obind (scat t11 t14) fun t15 =>
 (bcond (ieq x0_2 1)
 (obind (scat t15 ⟨#[32]⟩) fun t16 =>
 (obind (acall adraw E P n 34 [(.int .i64 x0_8)] k12.2) fun k17 =>
 (obind (vStr k17.1) fun t18 =>
 (obind (scat t16 t18) fun t19 =>
 (some ((.string t19), k17.2))))))
 (bcond (ieq x0_2 2)
 (obind (scat t15 ⟨#[32]⟩) fun t20 =>
 (obind (acall adraw E P n 34 [(.int .i64 x0_8)] k12.2) fun k21 =>
 (obind (vStr k21.1) fun t22 =>
 (obind (scat t20 t22) fun t23 =>
 (some ((.string t23), k21.2))))))
 (bcond (ieq x0_2 3)
 (obind (scat t15 ⟨#[32]⟩) fun t24 =>
 (obind (acall adraw E P n 34 [(.int .i64 x0_8)] k12.2) fun k25 =>
 (obind (vStr k25.1) fun t26 =>
 (obind (scat t24 t26) fun t27 =>
 (some ((.string t27), k25.2))))))
 (bcond (ieq x0_2 4)
 (obind (scat t15 ⟨#[32]⟩) fun t28 =>
 (obind (acall adraw E P n 34 [(.int .i64 x0_8)] k12.2) fun k29 =>
 (obind (vStr k29.1) fun t30 =>
 (obind (scat t28 t30) fun t31 =>
 (some ((.string t31), k29.2))))))
 (bcond (ieq x0_2 5)
 (obind (scat t15 ⟨#[32]⟩) fun t32 =>
 (obind (acall adraw E P n 36 [(.int .i64 x0_7), (.int .i64 x0_8)] k12.2) fun k33 =>
 (obind (vStr k33.1) fun t34 =>
 (obind (scat t32 t34) fun t35 =>
 (some ((.string t35), k33.2))))))
 (bcond (ieq x0_2 6)
 (obind (scat t15 ⟨#[32]⟩) fun t36 =>
 (obind (acall adraw E P n 36 [(.int .i64 x0_7), (.int .i64 x0_8)] k12.2) fun k37 =>
 (obind (vStr k37.1) fun t38 =>
 (obind (scat t36 t38) fun t39 =>
 (some ((.string t39), k37.2))))))
 (bcond (ieq x0_2 7)
 (obind (scat t15 ⟨#[32]⟩) fun t40 =>
 (obind (acall adraw E P n 36 [(.int .i64 x0_7), (.int .i64 x0_8)] k12.2) fun k41 =>
 (obind (vStr k41.1) fun t42 =>
 (obind (scat t40 t42) fun t43 =>
 (some ((.string t43), k41.2))))))
 (bcond (ieq x0_2 8)
 (obind (scat t15 ⟨#[32]⟩) fun t44 =>
 (obind (acall adraw E P n 36 [(.int .i64 x0_7), (.int .i64 x0_8)] k12.2) fun k45 =>
 (obind (vStr k45.1) fun t46 =>
 (obind (scat t44 t46) fun t47 =>
 (some ((.string t47), k45.2))))))
 (obind (acall adraw E P n 37 [(.slice f0_9 l0_9 g0_9)] k12.2) fun k48 =>
 (obind (vStr k48.1) fun t49 =>
 (obind (scat t15 t49) fun t50 =>
 (some ((.string t50), k48.2))))))))))))))))))))))))))
 (obind (acall adraw E P n 34 [(.int .i64 x0_0)] k0.2) fun k51 =>
 (obind (vStr k51.1) fun t52 =>
 (obind (scat ⟨#[116]⟩ t52) fun t53 =>
 (obind (scat t53 ⟨#[32]⟩) fun t54 =>
 (obind (scat t54 t2) fun t55 =>
 (bcond (bnot b0_1)
 (some ((.string t55), k51.2))
 (obind (acall adraw E P n 35 [(.bool b0_6)] k51.2) fun k56 =>
 (obind (vStr k56.1) fun t57 =>
 (obind (scat ⟨#[32, 45, 62, 32]⟩ t57) fun t58 =>
 (obind (scat t55 t58) fun t59 =>
 (bcond (ieq x0_2 1)
 (obind (scat t59 ⟨#[32]⟩) fun t60 =>
 (obind (acall adraw E P n 34 [(.int .i64 x0_8)] k56.2) fun k61 =>
 (obind (vStr k61.1) fun t62 =>
 (obind (scat t60 t62) fun t63 =>
 (some ((.string t63), k61.2))))))
 (bcond (ieq x0_2 2)
 (obind (scat t59 ⟨#[32]⟩) fun t64 =>
 (obind (acall adraw E P n 34 [(.int .i64 x0_8)] k56.2) fun k65 =>
 (obind (vStr k65.1) fun t66 =>
 (obind (scat t64 t66) fun t67 =>
 (some ((.string t67), k65.2))))))
 (bcond (ieq x0_2 3)
 (obind (scat t59 ⟨#[32]⟩) fun t68 =>
 (obind (acall adraw E P n 34 [(.int .i64 x0_8)] k56.2) fun k69 =>
 (obind (vStr k69.1) fun t70 =>
 (obind (scat t68 t70) fun t71 =>
 (some ((.string t71), k69.2))))))
 (bcond (ieq x0_2 4)
 (obind (scat t59 ⟨#[32]⟩) fun t72 =>
 (obind (acall adraw E P n 34 [(.int .i64 x0_8)] k56.2) fun k73 =>
 (obind (vStr k73.1) fun t74 =>
 (obind (scat t72 t74) fun t75 =>
 (some ((.string t75), k73.2))))))
 (bcond (ieq x0_2 5)
 (obind (scat t59 ⟨#[32]⟩) fun t76 =>
 (obind (acall adraw E P n 36 [(.int .i64 x0_7), (.int .i64 x0_8)] k56.2) fun k77 =>
 (obind (vStr k77.1) fun t78 =>
 (obind (scat t76 t78) fun t79 =>
 (some ((.string t79), k77.2))))))
 (bcond (ieq x0_2 6)
 (obind (scat t59 ⟨#[32]⟩) fun t80 =>
 (obind (acall adraw E P n 36 [(.int .i64 x0_7), (.int .i64 x0_8)] k56.2) fun k81 =>
 (obind (vStr k81.1) fun t82 =>
 (obind (scat t80 t82) fun t83 =>
 (some ((.string t83), k81.2))))))
 (bcond (ieq x0_2 7)
 (obind (scat t59 ⟨#[32]⟩) fun t84 =>
 (obind (acall adraw E P n 36 [(.int .i64 x0_7), (.int .i64 x0_8)] k56.2) fun k85 =>
 (obind (vStr k85.1) fun t86 =>
 (obind (scat t84 t86) fun t87 =>
 (some ((.string t87), k85.2))))))
 (bcond (ieq x0_2 8)
 (obind (scat t59 ⟨#[32]⟩) fun t88 =>
 (obind (acall adraw E P n 36 [(.int .i64 x0_7), (.int .i64 x0_8)] k56.2) fun k89 =>
 (obind (vStr k89.1) fun t90 =>
 (obind (scat t88 t90) fun t91 =>
 (some ((.string t91), k89.2))))))
 (obind (acall adraw E P n 37 [(.slice f0_9 l0_9 g0_9)] k56.2) fun k92 =>
 (obind (vStr k92.1) fun t93 =>
 (obind (scat t59 t93) fun t94 =>
 (some ((.string t94), k92.2)))))))))))))))))))))))))))) := by kernel_rfl
/-! 12 larch/larchref28.Tell -/
noncomputable def L12_0 (n : Nat) (m0 : Nat) (s4 : ByteArray) (f68 : Option Addr) (l68 : Nat) (g68 : Nat) (x69 : Int) (x70 : Int) (d : Nat → Value) (h : St) : Option (Value × St) :=
  segLoop adraw E P n fi12 [1, 1, 1, 1, 1, 1, 1, 0, 1, 0] [] m0 [(d 0), (d 1), (d 2), (d 3), (.string s4), (d 5), (d 6), (d 7), (d 8), (d 9), (d 10), (d 11), (d 12), (d 13), (d 14), (d 15), (d 16), (d 17), (d 18), (d 19), (d 20), (d 21), (d 22), (d 23), (d 24), (d 25), (d 26), (d 27), (d 28), (d 29), (d 30), (d 31), (d 32), (d 33), (d 34), (d 35), (d 36), (d 37), (d 38), (d 39), (d 40), (d 41), (d 42), (d 43), (d 44), (d 45), (d 46), (d 47), (d 48), (d 49), (d 50), (d 51), (d 52), (d 53), (d 54), (d 55), (d 56), (d 57), (d 58), (d 59), (d 60), (d 61), (d 62), (d 63), (d 64), (d 65), (d 66), (d 67), (.slice f68 l68 g68), (.int .i64 x69), (.int .i64 x70), (d 71), (d 72), (d 73), (d 74), (d 75), (d 76), (d 77), (d 78), (d 79), (d 80)] h
noncomputable def A12_1 (n : Nat) (s4 : ByteArray) (d : Nat → Value) (h : St) : Option (Value × St) :=
  segAt adraw E P n fi12 [1, 1, 1, 1, 1, 1, 1, 1] [] [(d 0), (d 1), (d 2), (d 3), (.string s4), (d 5), (d 6), (d 7), (d 8), (d 9), (d 10), (d 11), (d 12), (d 13), (d 14), (d 15), (d 16), (d 17), (d 18), (d 19), (d 20), (d 21), (d 22), (d 23), (d 24), (d 25), (d 26), (d 27), (d 28), (d 29), (d 30), (d 31), (d 32), (d 33), (d 34), (d 35), (d 36), (d 37), (d 38), (d 39), (d 40), (d 41), (d 42), (d 43), (d 44), (d 45), (d 46), (d 47), (d 48), (d 49), (d 50), (d 51), (d 52), (d 53), (d 54), (d 55), (d 56), (d 57), (d 58), (d 59), (d 60), (d 61), (d 62), (d 63), (d 64), (d 65), (d 66), (d 67), (d 68), (d 69), (d 70), (d 71), (d 72), (d 73), (d 74), (d 75), (d 76), (d 77), (d 78), (d 79), (d 80)] h
theorem L12_0_eq (n : Nat) (m0 : Nat) (s4 : ByteArray) (f68 : Option Addr) (l68 : Nat) (g68 : Nat) (x69 : Int) (x70 : Int) (d : Nat → Value) (h : St) : L12_0 n (m0 + 1) s4 f68 l68 g68 x69 x70 d h =
 (bcond (ilt x70 x69)
 (obind (sidxA 2 (.slice f68 l68 g68) x70) fun a0 =>
 (obind (ldN h 2 (.pointer (some a0))) fun v1 =>
 (obind (vAgg 2 v1) fun w2 =>
 (obind (vInt .i64 (w2.getD 0 undef)) fun i3 =>
 (obind (vInt .i64 (w2.getD 1 undef)) fun i4 =>
 (obind (acall adraw E P n 39 [(.agg #[(.int .i64 i3), (.int .i64 i4)])] h) fun k5 =>
 (obind (vStr k5.1) fun t6 =>
 (obind (scat ⟨#[32]⟩ t6) fun t7 =>
 (obind (scat s4 t7) fun t8 =>
 (L12_0 n m0 t8 f68 l68 g68 x69 (wadd .i64 x70 1) (dd [(d 0), (d 1), (d 2), (d 3), (.string t8), (d 5), (.agg #[(.int .i64 i3), (.int .i64 i4)]), undef, (d 8), (d 9), (d 10), (d 11), undef, undef, (d 14), (d 15), (d 16), undef, (d 18), (d 19), (d 20), (d 21), (d 22), (d 23), undef, (d 25), (d 26), (d 27), undef, undef, (d 30), (d 31), (d 32), (d 33), (d 34), undef, undef, (d 37), (d 38), (d 39), (d 40), (d 41), (d 42), (d 43), (d 44), undef, undef, (d 47), (d 48), (d 49), (d 50), (d 51), (d 52), (d 53), (d 54), (d 55), (d 56), undef, undef, (d 59), undef, undef, (d 62), (d 63), (d 64), (d 65), undef, undef, (.slice f68 l68 g68), (.int .i64 x69), (.int .i64 (wadd .i64 x70 1)), (.bool true), (.pointer (some a0)), (.agg #[(.int .i64 i3), (.int .i64 i4)]), (.string s4), (.agg #[(.int .i64 i3), (.int .i64 i4)]), (.string t6), (.string t7), (.string t8), (.int .i64 (wadd .i64 x70 1)), (d 80)]) k5.2))))))))))
 (A12_1 n s4 (dd [(d 0), (d 1), (d 2), (d 3), (.string s4), (d 5), (d 6), undef, (d 8), (d 9), (d 10), (d 11), undef, undef, (d 14), (d 15), (d 16), undef, (d 18), (d 19), (d 20), (d 21), (d 22), (d 23), undef, (d 25), (d 26), (d 27), undef, undef, (d 30), (d 31), (d 32), (d 33), (d 34), undef, undef, (d 37), (d 38), (d 39), (d 40), (d 41), (d 42), (d 43), (d 44), undef, undef, (d 47), (d 48), (d 49), (d 50), (d 51), (d 52), (d 53), (d 54), (d 55), (d 56), undef, undef, (d 59), undef, undef, (d 62), (d 63), (d 64), (d 65), undef, undef, (.slice f68 l68 g68), (.int .i64 x69), (.int .i64 x70), (.bool false), (d 72), (d 73), (d 74), (d 75), (d 76), (d 77), (d 78), (d 79), (d 80)]) h)) := by kernel_rfl
theorem A12_1_eq (n : Nat) (s4 : ByteArray) (d : Nat → Value) (h : St) : A12_1 n s4 d h =
 (some ((.string s4), h)) := by kernel_rfl
theorem F12_eq (n : Nat) (x0_0 : Int) (b0_1 : Bool) (x0_2 : Int) (x0_3 : Int) (x0_4 : Int) (x0_5 : Int) (b0_6 : Bool) (x0_7 : Int) (x0_8 : Int) (f0_9 : Option Addr) (l0_9 : Nat) (g0_9 : Nat) (h : St) : acall adraw E P (n + 1) 12 [(.agg #[(.int .i64 x0_0), (.bool b0_1), (.int .i64 x0_2), (.int .i64 x0_3), (.int .i64 x0_4), (.int .i64 x0_5), (.bool b0_6), (.int .i64 x0_7), (.int .i64 x0_8), (.slice f0_9 l0_9 g0_9)])] h =
 (obind (acall adraw E P n 19 [(.agg #[(.int .i64 x0_2), (.int .i64 x0_3), (.int .i64 x0_4), (.int .i64 x0_5)])] h) fun k0 =>
 (obind (vStr k0.1) fun t1 =>
 (bcond (seq t1 ⟨#[]⟩)
 (obind (acall adraw E P n 38 [(.int .i64 x0_2)] k0.2) fun k2 =>
 (obind (vStr k2.1) fun t3 =>
 (obind (scat ⟨#[107, 105, 110, 100, 32]⟩ t3) fun t4 =>
 (obind (acall adraw E P n 38 [(.int .i64 x0_0)] k2.2) fun k5 =>
 (obind (vStr k5.1) fun t6 =>
 (obind (scat ⟨#[116]⟩ t6) fun t7 =>
 (obind (scat t7 ⟨#[32]⟩) fun t8 =>
 (obind (scat t8 t4) fun t9 =>
 (bcond (bnot b0_1)
 (some ((.string t9), k5.2))
 (bcond b0_6
 (obind (scat t9 ⟨#[32, 45, 62, 32, 121, 101, 115]⟩) fun t10 =>
 (bcond (ieq x0_2 1)
 (obind (scat t10 ⟨#[32]⟩) fun t11 =>
 (obind (acall adraw E P n 38 [(.int .i64 x0_8)] k5.2) fun k12 =>
 (obind (vStr k12.1) fun t13 =>
 (obind (scat t11 t13) fun t14 =>
 (some ((.string t14), k12.2))))))
 (bcond (ieq x0_2 2)
 (obind (scat t10 ⟨#[32]⟩) fun t15 =>
 (obind (acall adraw E P n 38 [(.int .i64 x0_8)] k5.2) fun k16 =>
 (obind (vStr k16.1) fun t17 =>
 (obind (scat t15 t17) fun t18 =>
 (some ((.string t18), k16.2))))))
 (bcond (ieq x0_2 3)
 (obind (scat t10 ⟨#[32]⟩) fun t19 =>
 (obind (acall adraw E P n 38 [(.int .i64 x0_8)] k5.2) fun k20 =>
 (obind (vStr k20.1) fun t21 =>
 (obind (scat t19 t21) fun t22 =>
 (some ((.string t22), k20.2))))))
 (bcond (ieq x0_2 4)
 (obind (scat t10 ⟨#[32]⟩) fun t23 =>
 (obind (acall adraw E P n 38 [(.int .i64 x0_8)] k5.2) fun k24 =>
 (obind (vStr k24.1) fun t25 =>
 (obind (scat t23 t25) fun t26 =>
 (some ((.string t26), k24.2))))))
 (bcond (ieq x0_2 5)
 (obind (scat t10 ⟨#[32]⟩) fun t27 =>
 (obind (acall adraw E P n 39 [(.agg #[(.int .i64 x0_7), (.int .i64 x0_8)])] k5.2) fun k28 =>
 (obind (vStr k28.1) fun t29 =>
 (obind (scat t27 t29) fun t30 =>
 (some ((.string t30), k28.2))))))
 (bcond (ieq x0_2 6)
 (obind (scat t10 ⟨#[32]⟩) fun t31 =>
 (obind (acall adraw E P n 39 [(.agg #[(.int .i64 x0_7), (.int .i64 x0_8)])] k5.2) fun k32 =>
 (obind (vStr k32.1) fun t33 =>
 (obind (scat t31 t33) fun t34 =>
 (some ((.string t34), k32.2))))))
 (bcond (ieq x0_2 7)
 (obind (scat t10 ⟨#[32]⟩) fun t35 =>
 (obind (acall adraw E P n 39 [(.agg #[(.int .i64 x0_7), (.int .i64 x0_8)])] k5.2) fun k36 =>
 (obind (vStr k36.1) fun t37 =>
 (obind (scat t35 t37) fun t38 =>
 (some ((.string t38), k36.2))))))
 (bcond (ieq x0_2 8)
 (obind (scat t10 ⟨#[32]⟩) fun t39 =>
 (obind (acall adraw E P n 39 [(.agg #[(.int .i64 x0_7), (.int .i64 x0_8)])] k5.2) fun k40 =>
 (obind (vStr k40.1) fun t41 =>
 (obind (scat t39 t41) fun t42 =>
 (some ((.string t42), k40.2))))))
 (L12_0 n n t10 f0_9 l0_9 g0_9 (l0_9 : Nat) 0 (dd [(.agg #[(.int .i64 x0_0), (.bool b0_1), (.int .i64 x0_2), (.int .i64 x0_3), (.int .i64 x0_4), (.int .i64 x0_5), (.bool b0_6), (.int .i64 x0_7), (.int .i64 x0_8), (.slice f0_9 l0_9 g0_9)]), (.agg #[(.int .i64 x0_0), (.bool b0_1), (.int .i64 x0_2), (.int .i64 x0_3), (.int .i64 x0_4), (.int .i64 x0_5), (.bool b0_6), (.int .i64 x0_7), (.int .i64 x0_8), (.slice f0_9 l0_9 g0_9)]), (.string ⟨#[]⟩), (.string t4), (.string t10), undef, undef, undef, (.agg #[(.int .i64 x0_2), (.int .i64 x0_3), (.int .i64 x0_4), (.int .i64 x0_5)]), (.string t1), (.string t1), (.bool true), undef, undef, (.int .i64 x0_2), (.string t3), (.string t4), undef, (.int .i64 x0_0), (.string t6), (.string t7), (.string t8), (.string t4), (.string t9), undef, (.bool b0_1), (.bool false), undef, undef, undef, (.bool true), (.string t9), (.string t10), undef, undef, undef, undef, (.int .i64 x0_2), (.bool false), (.bool (ieq x0_2 1)), (.bool (ieq x0_2 2)), (.bool (ieq x0_2 3)), (.bool (ieq x0_2 4)), undef, undef, undef, undef, undef, undef, undef, (.bool false), (.bool (ieq x0_2 5)), (.bool (ieq x0_2 6)), (.bool (ieq x0_2 7)), (.bool (ieq x0_2 8)), undef, undef, undef, undef, undef, undef, undef, undef, undef, undef, undef, (.complex .f32 1 6), (.complex .f32 1 9), (.slice f0_9 l0_9 g0_9), (.int .i64 (l0_9 : Nat)), (.int .i64 0), undef, undef, undef, undef, undef, undef, undef, undef, undef, undef]) k5.2))))))))))
 (obind (scat t9 ⟨#[32, 45, 62, 32, 110, 111]⟩) fun t43 =>
 (bcond (ieq x0_2 1)
 (obind (scat t43 ⟨#[32]⟩) fun t44 =>
 (obind (acall adraw E P n 38 [(.int .i64 x0_8)] k5.2) fun k45 =>
 (obind (vStr k45.1) fun t46 =>
 (obind (scat t44 t46) fun t47 =>
 (some ((.string t47), k45.2))))))
 (bcond (ieq x0_2 2)
 (obind (scat t43 ⟨#[32]⟩) fun t48 =>
 (obind (acall adraw E P n 38 [(.int .i64 x0_8)] k5.2) fun k49 =>
 (obind (vStr k49.1) fun t50 =>
 (obind (scat t48 t50) fun t51 =>
 (some ((.string t51), k49.2))))))
 (bcond (ieq x0_2 3)
 (obind (scat t43 ⟨#[32]⟩) fun t52 =>
 (obind (acall adraw E P n 38 [(.int .i64 x0_8)] k5.2) fun k53 =>
 (obind (vStr k53.1) fun t54 =>
 (obind (scat t52 t54) fun t55 =>
 (some ((.string t55), k53.2))))))
 (bcond (ieq x0_2 4)
 (obind (scat t43 ⟨#[32]⟩) fun t56 =>
 (obind (acall adraw E P n 38 [(.int .i64 x0_8)] k5.2) fun k57 =>
 (obind (vStr k57.1) fun t58 =>
 (obind (scat t56 t58) fun t59 =>
 (some ((.string t59), k57.2))))))
 (bcond (ieq x0_2 5)
 (obind (scat t43 ⟨#[32]⟩) fun t60 =>
 (obind (acall adraw E P n 39 [(.agg #[(.int .i64 x0_7), (.int .i64 x0_8)])] k5.2) fun k61 =>
 (obind (vStr k61.1) fun t62 =>
 (obind (scat t60 t62) fun t63 =>
 (some ((.string t63), k61.2))))))
 (bcond (ieq x0_2 6)
 (obind (scat t43 ⟨#[32]⟩) fun t64 =>
 (obind (acall adraw E P n 39 [(.agg #[(.int .i64 x0_7), (.int .i64 x0_8)])] k5.2) fun k65 =>
 (obind (vStr k65.1) fun t66 =>
 (obind (scat t64 t66) fun t67 =>
 (some ((.string t67), k65.2))))))
 (bcond (ieq x0_2 7)
 (obind (scat t43 ⟨#[32]⟩) fun t68 =>
 (obind (acall adraw E P n 39 [(.agg #[(.int .i64 x0_7), (.int .i64 x0_8)])] k5.2) fun k69 =>
 (obind (vStr k69.1) fun t70 =>
 (obind (scat t68 t70) fun t71 =>
 (some ((.string t71), k69.2))))))
 (bcond (ieq x0_2 8)
 (obind (scat t43 ⟨#[32]⟩) fun t72 =>
 (obind (acall adraw E P n 39 [(.agg #[(.int .i64 x0_7), (.int .i64 x0_8)])] k5.2) fun k73 =>
 (obind (vStr k73.1) fun t74 =>
 (obind (scat t72 t74) fun t75 =>
 (some ((.string t75), k73.2))))))
 (L12_0 n n t43 f0_9 l0_9 g0_9 (l0_9 : Nat) 0 (dd [(.agg #[(.int .i64 x0_0), (.bool b0_1), (.int .i64 x0_2), (.int .i64 x0_3), (.int .i64 x0_4), (.int .i64 x0_5), (.bool b0_6), (.int .i64 x0_7), (.int .i64 x0_8), (.slice f0_9 l0_9 g0_9)]), (.agg #[(.int .i64 x0_0), (.bool b0_1), (.int .i64 x0_2), (.int .i64 x0_3), (.int .i64 x0_4), (.int .i64 x0_5), (.bool b0_6), (.int .i64 x0_7), (.int .i64 x0_8), (.slice f0_9 l0_9 g0_9)]), (.string ⟨#[]⟩), (.string t4), (.string t43), undef, undef, undef, (.agg #[(.int .i64 x0_2), (.int .i64 x0_3), (.int .i64 x0_4), (.int .i64 x0_5)]), (.string t1), (.string t1), (.bool true), undef, undef, (.int .i64 x0_2), (.string t3), (.string t4), undef, (.int .i64 x0_0), (.string t6), (.string t7), (.string t8), (.string t4), (.string t9), undef, (.bool b0_1), (.bool false), undef, undef, undef, (.bool false), undef, undef, (.string t9), (.string t43), undef, undef, (.int .i64 x0_2), (.bool false), (.bool (ieq x0_2 1)), (.bool (ieq x0_2 2)), (.bool (ieq x0_2 3)), (.bool (ieq x0_2 4)), undef, undef, undef, undef, undef, undef, undef, (.bool false), (.bool (ieq x0_2 5)), (.bool (ieq x0_2 6)), (.bool (ieq x0_2 7)), (.bool (ieq x0_2 8)), undef, undef, undef, undef, undef, undef, undef, undef, undef, undef, undef, (.complex .f32 1 6), (.complex .f32 1 9), (.slice f0_9 l0_9 g0_9), (.int .i64 (l0_9 : Nat)), (.int .i64 0), undef, undef, undef, undef, undef, undef, undef, undef, undef, undef]) k5.2))))))))))))))))))))
 (obind (acall adraw E P n 38 [(.int .i64 x0_0)] k0.2) fun k76 =>
 (obind (vStr k76.1) fun t77 =>
 (obind (scat ⟨#[116]⟩ t77) fun t78 =>
 (obind (scat t78 ⟨#[32]⟩) fun t79 =>
 (obind (scat t79 t1) fun t80 =>
 (bcond (bnot b0_1)
 (some ((.string t80), k76.2))
 (bcond b0_6
 (obind (scat t80 ⟨#[32, 45, 62, 32, 121, 101, 115]⟩) fun t81 =>
 (bcond (ieq x0_2 1)
 (obind (scat t81 ⟨#[32]⟩) fun t82 =>
 (obind (acall adraw E P n 38 [(.int .i64 x0_8)] k76.2) fun k83 =>
 (obind (vStr k83.1) fun t84 =>
 (obind (scat t82 t84) fun t85 =>
 (some ((.string t85), k83.2))))))
 (bcond (ieq x0_2 2)
 (obind (scat t81 ⟨#[32]⟩) fun t86 =>
 (obind (acall adraw E P n 38 [(.int .i64 x0_8)] k76.2) fun k87 =>
 (obind (vStr k87.1) fun t88 =>
 (obind (scat t86 t88) fun t89 =>
 (some ((.string t89), k87.2))))))
 (bcond (ieq x0_2 3)
 (obind (scat t81 ⟨#[32]⟩) fun t90 =>
 (obind (acall adraw E P n 38 [(.int .i64 x0_8)] k76.2) fun k91 =>
 (obind (vStr k91.1) fun t92 =>
 (obind (scat t90 t92) fun t93 =>
 (some ((.string t93), k91.2))))))
 (bcond (ieq x0_2 4)
 (obind (scat t81 ⟨#[32]⟩) fun t94 =>
 (obind (acall adraw E P n 38 [(.int .i64 x0_8)] k76.2) fun k95 =>
 (obind (vStr k95.1) fun t96 =>
 (obind (scat t94 t96) fun t97 =>
 (some ((.string t97), k95.2))))))
 (bcond (ieq x0_2 5)
 (obind (scat t81 ⟨#[32]⟩) fun t98 =>
 (obind (acall adraw E P n 39 [(.agg #[(.int .i64 x0_7), (.int .i64 x0_8)])] k76.2) fun k99 =>
 (obind (vStr k99.1) fun t100 =>
 (obind (scat t98 t100) fun t101 =>
 (some ((.string t101), k99.2))))))
 (bcond (ieq x0_2 6)
 (obind (scat t81 ⟨#[32]⟩) fun t102 =>
 (obind (acall adraw E P n 39 [(.agg #[(.int .i64 x0_7), (.int .i64 x0_8)])] k76.2) fun k103 =>
 (obind (vStr k103.1) fun t104 =>
 (obind (scat t102 t104) fun t105 =>
 (some ((.string t105), k103.2))))))
 (bcond (ieq x0_2 7)
 (obind (scat t81 ⟨#[32]⟩) fun t106 =>
 (obind (acall adraw E P n 39 [(.agg #[(.int .i64 x0_7), (.int .i64 x0_8)])] k76.2) fun k107 =>
 (obind (vStr k107.1) fun t108 =>
 (obind (scat t106 t108) fun t109 =>
 (some ((.string t109), k107.2))))))
 (bcond (ieq x0_2 8)
 (obind (scat t81 ⟨#[32]⟩) fun t110 =>
 (obind (acall adraw E P n 39 [(.agg #[(.int .i64 x0_7), (.int .i64 x0_8)])] k76.2) fun k111 =>
 (obind (vStr k111.1) fun t112 =>
 (obind (scat t110 t112) fun t113 =>
 (some ((.string t113), k111.2))))))
 (L12_0 n n t81 f0_9 l0_9 g0_9 (l0_9 : Nat) 0 (dd [(.agg #[(.int .i64 x0_0), (.bool b0_1), (.int .i64 x0_2), (.int .i64 x0_3), (.int .i64 x0_4), (.int .i64 x0_5), (.bool b0_6), (.int .i64 x0_7), (.int .i64 x0_8), (.slice f0_9 l0_9 g0_9)]), (.agg #[(.int .i64 x0_0), (.bool b0_1), (.int .i64 x0_2), (.int .i64 x0_3), (.int .i64 x0_4), (.int .i64 x0_5), (.bool b0_6), (.int .i64 x0_7), (.int .i64 x0_8), (.slice f0_9 l0_9 g0_9)]), (.string ⟨#[]⟩), (.string t1), (.string t81), undef, undef, undef, (.agg #[(.int .i64 x0_2), (.int .i64 x0_3), (.int .i64 x0_4), (.int .i64 x0_5)]), (.string t1), (.string t1), (.bool false), undef, undef, undef, undef, undef, undef, (.int .i64 x0_0), (.string t77), (.string t78), (.string t79), (.string t1), (.string t80), undef, (.bool b0_1), (.bool false), undef, undef, undef, (.bool true), (.string t80), (.string t81), undef, undef, undef, undef, (.int .i64 x0_2), (.bool false), (.bool (ieq x0_2 1)), (.bool (ieq x0_2 2)), (.bool (ieq x0_2 3)), (.bool (ieq x0_2 4)), undef, undef, undef, undef, undef, undef, undef, (.bool false), (.bool (ieq x0_2 5)), (.bool (ieq x0_2 6)), (.bool (ieq x0_2 7)), (.bool (ieq x0_2 8)), undef, undef, undef, undef, undef, undef, undef, undef, undef, undef, undef, (.complex .f32 1 6), (.complex .f32 1 9), (.slice f0_9 l0_9 g0_9), (.int .i64 (l0_9 : Nat)), (.int .i64 0), undef, undef, undef, undef, undef, undef, undef, undef, undef, undef]) k76.2))))))))))
 (obind (scat t80 ⟨#[32, 45, 62, 32, 110, 111]⟩) fun t114 =>
 (bcond (ieq x0_2 1)
 (obind (scat t114 ⟨#[32]⟩) fun t115 =>
 (obind (acall adraw E P n 38 [(.int .i64 x0_8)] k76.2) fun k116 =>
 (obind (vStr k116.1) fun t117 =>
 (obind (scat t115 t117) fun t118 =>
 (some ((.string t118), k116.2))))))
 (bcond (ieq x0_2 2)
 (obind (scat t114 ⟨#[32]⟩) fun t119 =>
 (obind (acall adraw E P n 38 [(.int .i64 x0_8)] k76.2) fun k120 =>
 (obind (vStr k120.1) fun t121 =>
 (obind (scat t119 t121) fun t122 =>
 (some ((.string t122), k120.2))))))
 (bcond (ieq x0_2 3)
 (obind (scat t114 ⟨#[32]⟩) fun t123 =>
 (obind (acall adraw E P n 38 [(.int .i64 x0_8)] k76.2) fun k124 =>
 (obind (vStr k124.1) fun t125 =>
 (obind (scat t123 t125) fun t126 =>
 (some ((.string t126), k124.2))))))
 (bcond (ieq x0_2 4)
 (obind (scat t114 ⟨#[32]⟩) fun t127 =>
 (obind (acall adraw E P n 38 [(.int .i64 x0_8)] k76.2) fun k128 =>
 (obind (vStr k128.1) fun t129 =>
 (obind (scat t127 t129) fun t130 =>
 (some ((.string t130), k128.2))))))
 (bcond (ieq x0_2 5)
 (obind (scat t114 ⟨#[32]⟩) fun t131 =>
 (obind (acall adraw E P n 39 [(.agg #[(.int .i64 x0_7), (.int .i64 x0_8)])] k76.2) fun k132 =>
 (obind (vStr k132.1) fun t133 =>
 (obind (scat t131 t133) fun t134 =>
 (some ((.string t134), k132.2))))))
 (bcond (ieq x0_2 6)
 (obind (scat t114 ⟨#[32]⟩) fun t135 =>
 (obind (acall adraw E P n 39 [(.agg #[(.int .i64 x0_7), (.int .i64 x0_8)])] k76.2) fun k136 =>
 (obind (vStr k136.1) fun t137 =>
 (obind (scat t135 t137) fun t138 =>
 (some ((.string t138), k136.2))))))
 (bcond (ieq x0_2 7)
 (obind (scat t114 ⟨#[32]⟩) fun t139 =>
 (obind (acall adraw E P n 39 [(.agg #[(.int .i64 x0_7), (.int .i64 x0_8)])] k76.2) fun k140 =>
 (obind (vStr k140.1) fun t141 =>
 (obind (scat t139 t141) fun t142 =>
 (some ((.string t142), k140.2))))))
 (bcond (ieq x0_2 8)
 (obind (scat t114 ⟨#[32]⟩) fun t143 =>
 (obind (acall adraw E P n 39 [(.agg #[(.int .i64 x0_7), (.int .i64 x0_8)])] k76.2) fun k144 =>
 (obind (vStr k144.1) fun t145 =>
 (obind (scat t143 t145) fun t146 =>
 (some ((.string t146), k144.2))))))
 (L12_0 n n t114 f0_9 l0_9 g0_9 (l0_9 : Nat) 0 (dd [(.agg #[(.int .i64 x0_0), (.bool b0_1), (.int .i64 x0_2), (.int .i64 x0_3), (.int .i64 x0_4), (.int .i64 x0_5), (.bool b0_6), (.int .i64 x0_7), (.int .i64 x0_8), (.slice f0_9 l0_9 g0_9)]), (.agg #[(.int .i64 x0_0), (.bool b0_1), (.int .i64 x0_2), (.int .i64 x0_3), (.int .i64 x0_4), (.int .i64 x0_5), (.bool b0_6), (.int .i64 x0_7), (.int .i64 x0_8), (.slice f0_9 l0_9 g0_9)]), (.string ⟨#[]⟩), (.string t1), (.string t114), undef, undef, undef, (.agg #[(.int .i64 x0_2), (.int .i64 x0_3), (.int .i64 x0_4), (.int .i64 x0_5)]), (.string t1), (.string t1), (.bool false), undef, undef, undef, undef, undef, undef, (.int .i64 x0_0), (.string t77), (.string t78), (.string t79), (.string t1), (.string t80), undef, (.bool b0_1), (.bool false), undef, undef, undef, (.bool false), undef, undef, (.string t80), (.string t114), undef, undef, (.int .i64 x0_2), (.bool false), (.bool (ieq x0_2 1)), (.bool (ieq x0_2 2)), (.bool (ieq x0_2 3)), (.bool (ieq x0_2 4)), undef, undef, undef, undef, undef, undef, undef, (.bool false), (.bool (ieq x0_2 5)), (.bool (ieq x0_2 6)), (.bool (ieq x0_2 7)), (.bool (ieq x0_2 8)), undef, undef, undef, undef, undef, undef, undef, undef, undef, undef, undef, (.complex .f32 1 6), (.complex .f32 1 9), (.slice f0_9 l0_9 g0_9), (.int .i64 (l0_9 : Nat)), (.int .i64 0), undef, undef, undef, undef, undef, undef, undef, undef, undef, undef]) k76.2)))))))))))))))))))) := by kernel_rfl
/-! 4 larch/larchlaw28.ShellTells -/
theorem F4_eq (n : Nat) (x0_0 : Int) (b0_1 : Bool) (x0_2 : Int) (x0_3 : Int) (x0_4 : Int) (x0_5 : Int) (b0_6 : Bool) (x0_7 : Int) (x0_8 : Int) (f0_9 : Option Addr) (l0_9 : Nat) (g0_9 : Nat) (h : St) : acall adraw E P (n + 1) 4 [(.agg #[(.int .i64 x0_0), (.bool b0_1), (.int .i64 x0_2), (.int .i64 x0_3), (.int .i64 x0_4), (.int .i64 x0_5), (.bool b0_6), (.int .i64 x0_7), (.int .i64 x0_8), (.slice f0_9 l0_9 g0_9)])] h =
 (obind (acall adraw E P n 7 [] h) fun k0 =>
 (obind (vBool k0.1) fun c1 =>
 (bcond c1
 (obind (acall adraw E P n 11 [(.agg #[(.int .i64 x0_0), (.bool b0_1), (.int .i64 x0_2), (.int .i64 x0_3), (.int .i64 x0_4), (.int .i64 x0_5), (.bool b0_6), (.int .i64 x0_7), (.int .i64 x0_8), (.slice f0_9 l0_9 g0_9)])] k0.2) fun k2 =>
 (obind (vStr k2.1) fun t3 =>
 (obind (acall adraw E P n 12 [(.agg #[(.int .i64 x0_0), (.bool b0_1), (.int .i64 x0_2), (.int .i64 x0_3), (.int .i64 x0_4), (.int .i64 x0_5), (.bool b0_6), (.int .i64 x0_7), (.int .i64 x0_8), (.slice f0_9 l0_9 g0_9)])] k2.2) fun k4 =>
 (obind (vStr k4.1) fun t5 =>
 (some ((.bool (seq t3 t5)), k4.2))))))
 (some ((.bool false), k0.2))))) := by kernel_rfl
end Go.Am.Sh
