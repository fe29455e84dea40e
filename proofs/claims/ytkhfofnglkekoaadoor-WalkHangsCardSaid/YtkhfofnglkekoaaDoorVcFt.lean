import Derived.Test.YtkhfofnglkekoaaDoorVcP
namespace Go.Proofs.YtkhfofnglkekoaaDoor
def F_flintlaw17_WalkReads (a1 : Option Addr) (a1l a1c : Nat) (s2 : ByteArray) (h : Hp) (R : Value → Hp → Prop) : Prop :=
    bsplit (decide ((s2.size : Int) > 3000))
    (FnH Tryd.prog N_flintlaw17_fixed #[] h fun v4 h3 => ∃ (b5 : Bool), v4 = (.bool b5) ∧ R (.bool b5) h3)
    (FnH Tryd.prog N_tree_New #[] h fun v7 h6 => ∃ (p8 : Option Addr), v7 = (.pointer p8) ∧ FnH Tryd.prog N_view_New #[.pointer p8] h6 fun v10 h9 => ∃ (p11 : Option Addr), v10 = (.pointer p11) ∧
    FnH Tryd.prog N_flintlaw17_cut #[.slice a1 a1l a1c] h9 fun v13 h12 => ∃ (a14 : Option Addr) (a14l a14c : Nat), v13 = (.slice a14 a14l a14c) ∧ ∃ Iv18 : Nat → Option Addr → Nat → Nat → Int → Hp →
    Prop, (∃ i19, Iv18 i19 none 0 0 0 h12) ∧ ∀ (i19 : Nat) (a15 : Option Addr) (a15l a15c : Nat) (n16 : Int) (h17 : Hp), Iv18 i19 a15 a15l a15c n16 h17 → (bsplit (decide (n16 < ((a14l : Nat) : Int)))
    (0 ≤ n16 ∧ n16 < (a14l : Nat) ∧ ptrM a14 fun q21 =>
    ∃ (n22 : Int) (n23 : Int) (n24 : Int) (s25 : ByteArray) (n26 : Int) (n27 : Int) (n28 : Int) (n29 : Int), At h17 (Addr.add q21 ((Int.toNat n16) * 8)) [.int .i64 n22, .int .u32 n23, .int .u32 n24, .string s25, .int .u8 n26, .int .u32 n27, .int .u32 n28, .int .u32 n29] ∧ FnH Tryd.prog N_flintlaw17_do #[.pointer p11, .slice a15 a15l a15c, .agg #[.int .i64 n22, .int .u32 n23, .int .u32 n24, .string s25, .int .u8 n26, .int .u32 n27, .int .u32 n28, .int .u32 n29]] h17 fun v31 h30 => ∃ (a32 : Option Addr) (a32l a32c : Nat), v31 = (.slice a32 a32l a32c) ∧ I64 (n16 + 1) ∧ ∃ k20, k20 < i19 ∧ Iv18 k20 a32 a32l a32c (n16 + 1) h30)
    (FnH Tryd.prog N_walk_Find #[.pointer p11, .string s2] h17 fun v34 h33 =>
    ∃ (n35 : Int) (s36 : ByteArray) (n37 : Int) (n38 : Int) (n39 : Int) (n40 : Int) (n41 : Int) (n42 : Int), v34 = (.tuple #[.agg #[.int .u32 n35, .string s36, .int .u32 n37, .int .u8 n38, .int .u32 n39, .int .u32 n40, .int .u32 n41], .int .i64 n42]) ∧ HNew h33 (.map #[] 0) fun b43 h44 => FnH Tryd.prog N_view_View_Reads #[.pointer p11] h44 fun v46 h45 => ∃ (a47 : Option Addr) (a47l a47c : Nat), v46 = (.slice a47 a47l a47c) ∧ ∃ Iv50 : Nat → Int → Hp → Prop, (∃ i51, Iv50 i51 0 h45) ∧ ∀ (i51 : Nat) (n48 : Int) (h49 : Hp), Iv50 i51 n48 h49 → (bsplit (decide (n48 < ((a47l : Nat) : Int)))
    (0 ≤ n48 ∧ n48 < (a47l : Nat) ∧ ptrM a47 fun q53 => ∃ (s54 : ByteArray), At h49 (Addr.add q53 ((Int.toNat n48) * 1)) [.string s54] ∧ HMap (Kd.str) h49 (some b43) (.string s54) (.bool true) fun h55 => I64 (n48 + 1) ∧
    ∃ k52, k52 < i51 ∧ Iv50 k52 (n48 + 1) h55)
    (bsplit (n42 == 17)
    (FnH Tryd.prog N_flintlaw17_fixed #[] h49 fun v57 h56 => ∃ (b58 : Bool), v57 = (.bool b58) ∧ bsplit b58
    (∃ es59, MapIs h56 (some b43) es59 ∧ R (.bool ((es59.length : Int) == 0)) h56)
    (R (.bool false) h56))
    (bsplit (n42 == 15)
    (FnH Tryd.prog N_flintlaw17_fixed #[] h49 fun v61 h60 => ∃ (b62 : Bool), v61 = (.bool b62) ∧ bsplit b62
    (∃ es63, MapIs h60 (some b43) es63 ∧ R (.bool ((es63.length : Int) == 0)) h60)
    (R (.bool false) h60))
    (bsplit (n42 != 0)
    (FnH Tryd.prog N_flintlaw17_fixed #[] h49 fun v65 h64 => ∃ (b66 : Bool), v65 = (.bool b66) ∧ bsplit b66
    (FnH Tryd.prog N_flintref09_Inode #[.int .u32 1] h64 fun v68 h67 => ∃ (s69 : ByteArray), v68 = (.string s69) ∧ ∃ es70, MapIs h67 (some b43) es70 ∧ keysOf (Kd.str) es70 ∧
    ∃ (b71 : Bool), (mfind (.string s69) es70).getD (.bool false) = (.bool b71) ∧ R (.bool b71) h67)
    (R (.bool false) h64))
    (FnH Tryd.prog N_flintlaw17_fixed #[] h49 fun v73 h72 => ∃ (b74 : Bool), v73 = (.bool b74) ∧ bsplit b74
    (FnH Tryd.prog N_flintref09_Inode #[.int .u32 1] h72 fun v76 h75 => ∃ (s77 : ByteArray), v76 = (.string s77) ∧ ∃ es78, MapIs h75 (some b43) es78 ∧ keysOf (Kd.str) es78 ∧
    ∃ (b79 : Bool), (mfind (.string s77) es78).getD (.bool false) = (.bool b79) ∧ bsplit b79
    (bsplit (decide (s36 = E0))
    (bsplit (n37 == 0)
    (bsplit (n35 == 0)
    (R (.bool true) h75)
    (FnH Tryd.prog N_flintref09_Inode #[.int .u32 n35] h75 fun v81 h80 => ∃ (s82 : ByteArray), v81 = (.string s82) ∧ ∃ es83, MapIs h80 (some b43) es83 ∧ keysOf (Kd.str) es83 ∧
    ∃ (b84 : Bool), (mfind (.string s82) es83).getD (.bool false) = (.bool b84) ∧ R (.bool b84) h80))
    (FnH Tryd.prog N_flintref09_Inode #[.int .u32 n37] h75 fun v86 h85 => ∃ (s87 : ByteArray), v86 = (.string s87) ∧ ∃ es88, MapIs h85 (some b43) es88 ∧ keysOf (Kd.str) es88 ∧
    ∃ (b89 : Bool), (mfind (.string s87) es88).getD (.bool false) = (.bool b89) ∧ bsplit b89
    (bsplit (n35 == 0)
    (R (.bool true) h85)
    (FnH Tryd.prog N_flintref09_Inode #[.int .u32 n35] h85 fun v91 h90 => ∃ (s92 : ByteArray), v91 = (.string s92) ∧ ∃ es93, MapIs h90 (some b43) es93 ∧ keysOf (Kd.str) es93 ∧
    ∃ (b94 : Bool), (mfind (.string s92) es93).getD (.bool false) = (.bool b94) ∧ R (.bool b94) h90))
    (R (.bool false) h85)))
    (FnH Tryd.prog N_flintref09_Entry #[.int .u32 n35, .string s36] h75 fun v96 h95 => ∃ (s97 : ByteArray), v96 = (.string s97) ∧ ∃ es98, MapIs h95 (some b43) es98 ∧ keysOf (Kd.str) es98 ∧
    ∃ (b99 : Bool), (mfind (.string s97) es98).getD (.bool false) = (.bool b99) ∧ bsplit b99
    (bsplit (n37 == 0)
    (bsplit (n35 == 0)
    (R (.bool true) h95)
    (FnH Tryd.prog N_flintref09_Inode #[.int .u32 n35] h95 fun v101 h100 => ∃ (s102 : ByteArray), v101 = (.string s102) ∧ ∃ es103, MapIs h100 (some b43) es103 ∧ keysOf (Kd.str) es103 ∧
    ∃ (b104 : Bool), (mfind (.string s102) es103).getD (.bool false) = (.bool b104) ∧ R (.bool b104) h100))
    (FnH Tryd.prog N_flintref09_Inode #[.int .u32 n37] h95 fun v106 h105 => ∃ (s107 : ByteArray), v106 = (.string s107) ∧ ∃ es108, MapIs h105 (some b43) es108 ∧ keysOf (Kd.str) es108 ∧
    ∃ (b109 : Bool), (mfind (.string s107) es108).getD (.bool false) = (.bool b109) ∧ bsplit b109
    (bsplit (n35 == 0)
    (R (.bool true) h105)
    (FnH Tryd.prog N_flintref09_Inode #[.int .u32 n35] h105 fun v111 h110 => ∃ (s112 : ByteArray), v111 = (.string s112) ∧ ∃ es113, MapIs h110 (some b43) es113 ∧ keysOf (Kd.str) es113 ∧
    ∃ (b114 : Bool), (mfind (.string s112) es113).getD (.bool false) = (.bool b114) ∧ R (.bool b114) h110))
    (R (.bool false) h105)))
    (R (.bool false) h95)))
    (R (.bool false) h75))
    (R (.bool false) h72)))))))))
theorem F_flintlaw17_WalkReads.calls (a1 : Option Addr) (a1l a1c : Nat) (s2 : ByteArray) (h : Hp) (R : Value → Hp → Prop) (H : F_flintlaw17_WalkReads a1 a1l a1c s2 h R) : FnH Tryd.prog N_flintlaw17_WalkReads #[.slice a1 a1l a1c, .string s2] h R :=
  vcFn_calls [(8, 8), (9, 9), (76, 9), (81, 9), (83, 9), (90, 9), (95, 9), (102, 9), (107, 9)] Tryd.func3 (.seq .none (.seq .none (.seq .none (.seq .none (.seq (.seq .none (.block (.loop ⟨[1, 5, 21, 22], [], [(6, false, [.slice]), (23, false, [.int .i64])], []⟩ .none))) (.seq .none (.seq .none (.seq (.seq .none (.block (.loop ⟨[9, 10, 11, 40, 41], [9], [(42, false, [.int .i64])], []⟩ .none))) .none)))))))) [.slice a1 a1l a1c, .string s2] (Eq.mp (by unfold F_flintlaw17_WalkReads; kernel_rfl) H)
def F_flintlaw17_WalkHangs (a1 : Option Addr) (a1l a1c : Nat) (n2 : Int) (n3 : Int) (s4 : ByteArray) (h : Hp) (R : Value → Hp → Prop) : Prop :=
    bsplit (decide ((s4.size : Int) > 32))
    (FnH Tryd.prog N_flintlaw17_fixed #[] h fun v6 h5 => ∃ (b7 : Bool), v6 = (.bool b7) ∧ R (.bool b7) h5)
    (bsplit (decide (s4 = E0))
    (FnH Tryd.prog N_flintlaw17_fixed #[] h fun v9 h8 => ∃ (b10 : Bool), v9 = (.bool b10) ∧ R (.bool b10) h8)
    (FnH Tryd.prog N_tree_New #[] h fun v12 h11 => ∃ (p13 : Option Addr), v12 = (.pointer p13) ∧ FnH Tryd.prog N_view_New #[.pointer p13] h11 fun v15 h14 => ∃ (p16 : Option Addr), v15 = (.pointer p16) ∧
    FnH Tryd.prog N_flintlaw17_cut #[.slice a1 a1l a1c] h14 fun v18 h17 => ∃ (a19 : Option Addr) (a19l a19c : Nat), v18 = (.slice a19 a19l a19c) ∧ ∃ Iv23 : Nat → Option Addr → Nat → Nat → Int → Hp →
    Prop, (∃ i24, Iv23 i24 none 0 0 0 h17) ∧ ∀ (i24 : Nat) (a20 : Option Addr) (a20l a20c : Nat) (n21 : Int) (h22 : Hp), Iv23 i24 a20 a20l a20c n21 h22 → (bsplit (decide (n21 < ((a19l : Nat) : Int)))
    (0 ≤ n21 ∧ n21 < (a19l : Nat) ∧ ptrM a19 fun q26 =>
    ∃ (n27 : Int) (n28 : Int) (n29 : Int) (s30 : ByteArray) (n31 : Int) (n32 : Int) (n33 : Int) (n34 : Int), At h22 (Addr.add q26 ((Int.toNat n21) * 8)) [.int .i64 n27, .int .u32 n28, .int .u32 n29, .string s30, .int .u8 n31, .int .u32 n32, .int .u32 n33, .int .u32 n34] ∧ FnH Tryd.prog N_flintlaw17_do #[.pointer p16, .slice a20 a20l a20c, .agg #[.int .i64 n27, .int .u32 n28, .int .u32 n29, .string s30, .int .u8 n31, .int .u32 n32, .int .u32 n33, .int .u32 n34]] h22 fun v36 h35 => ∃ (a37 : Option Addr) (a37l a37c : Nat), v36 = (.slice a37 a37l a37c) ∧ I64 (n21 + 1) ∧ ∃ k25, k25 < i24 ∧ Iv23 k25 a37 a37l a37c (n21 + 1) h35)
    (FnH Tryd.prog N_walk_Hang #[.pointer p16, .int .u32 n2, .string s4, .int .u32 n3] h22 fun v39 h38 => ∃ (b40 : Bool), v39 = (.bool b40) ∧ FnH Tryd.prog N_walk_Child #[.pointer p16, .int .u32 n2, .string s4] h38 fun v42 h41 =>
    ∃ (n43 : Int) (b44 : Bool), v42 = (.tuple #[.int .u32 n43, .bool b44]) ∧ FnH Tryd.prog N_walk_Unhang #[.pointer p16, .int .u32 n2, .string s4] h41 fun v46 h45 => ∃ (b47 : Bool), v46 = (.bool b47) ∧
    FnH Tryd.prog N_walk_Child #[.pointer p16, .int .u32 n2, .string s4] h45 fun v49 h48 => ∃ (n50 : Int) (b51 : Bool), v49 = (.tuple #[.int .u32 n50, .bool b51]) ∧ FnH Tryd.prog N_flintlaw17_fixed #[] h48 fun v53 h52 =>
    ∃ (b54 : Bool), v53 = (.bool b54) ∧ bsplit b54
    (bsplit b40
    (bsplit b44
    (bsplit (n43 == n3)
    (bsplit b47
    (bsplit (!b51)
    (FnH Tryd.prog N_walk_List #[.pointer p16, .int .u32 n2] h52 fun v56 h55 => ∃ (a57 : Option Addr) (a57l a57c : Nat), v56 = (.slice a57 a57l a57c) ∧ FnH Tryd.prog N_flintref09_Entry #[.int .u32 n2, .string s4] h55 fun v59 h58 =>
    ∃ (s60 : ByteArray), v59 = (.string s60) ∧ FnH Tryd.prog N_flintref10_Cut #[.slice a20 a20l a20c, .string s60] h58 fun v62 h61 => ∃ (a63 : Option Addr) (a63l a63c : Nat), v62 = (.slice a63 a63l a63c) ∧
    FnH Tryd.prog N_flintref17_List #[.slice a63 a63l a63c, .int .u32 n2] h61 fun v65 h64 => ∃ (a66 : Option Addr) (a66l a66c : Nat), v65 = (.slice a66 a66l a66c) ∧ R (.bool (((a57l : Nat) : Int) == ((a66l : Nat) : Int))) h64)
    (R (.bool false) h52))
    (R (.bool false) h52))
    (R (.bool false) h52))
    (R (.bool false) h52))
    (R (.bool false) h52))
    (R (.bool false) h52)))))
theorem F_flintlaw17_WalkHangs.calls (a1 : Option Addr) (a1l a1c : Nat) (n2 : Int) (n3 : Int) (s4 : ByteArray) (h : Hp) (R : Value → Hp → Prop) (H : F_flintlaw17_WalkHangs a1 a1l a1c n2 n3 s4 h R) : FnH Tryd.prog N_flintlaw17_WalkHangs #[.slice a1 a1l a1c, .int .u32 n2, .int .u32 n3, .string s4] h R :=
  vcFn_calls [(12, 12)] Tryd.func4 (.seq .none (.seq .none (.seq .none (.seq .none (.seq (.seq .none (.block (.loop ⟨[1, 2, 3, 9, 30, 31], [], [(10, false, [.slice]), (32, false, [.int .i64])], []⟩ .none))) .none))))) [.slice a1 a1l a1c, .int .u32 n2, .int .u32 n3, .string s4] (Eq.mp (by unfold F_flintlaw17_WalkHangs; kernel_rfl) H)
def F_flintlaw28_ArkAny (a1 : Option Addr) (a1l a1c : Nat) (h : Hp) (R : Value → Hp → Prop) : Prop :=
    FnH Tryd.prog N_tree_New #[] h fun v3 h2 => ∃ (p4 : Option Addr), v3 = (.pointer p4) ∧ ∃ Iv8 : Nat → Option Addr → Int → Hp → Prop, (∃ i9, Iv8 i9 p4 0 h2) ∧ ∀ (i9 : Nat) (p5 : Option Addr) (n6 : Int) (h7 : Hp), Iv8 i9 p5 n6 h7 →
    (bsplit (decide (n6 < ((a1l : Nat) : Int)))
    (0 ≤ n6 ∧ n6 < (a1l : Nat) ∧ ptrM a1 fun q11 => ∃ (s12 : ByteArray) (s13 : ByteArray), At h7 (Addr.add q11 ((Int.toNat n6) * 2)) [.string s12, .string s13] ∧ HNew h7 (.cells #[.string E0, .string E0] T_a2_string) fun b14 h15 =>
    HSt h15 (⟨b14, 0, none⟩) [.string s12, .string s13] fun h16 => bsplit (decide (n6 ≥ 40))
    (FnH Tryd.prog N_flintlaw28_fixed #[] h16 fun v18 h17 => ∃ (b19 : Bool), v18 = (.bool b19) ∧ R (.bool b19) h17)
    (0 ≤ (0 : Int) ∧ (0 : Int) < (2 : Nat) ∧ ∃ (s20 : ByteArray), At h16 (Addr.add (⟨b14, 0, none⟩) ((Int.toNat 0) * 1)) [.string s20] ∧ bsplit (decide ((s20.size : Int) > 100))
    (FnH Tryd.prog N_flintlaw28_fixed #[] h16 fun v22 h21 => ∃ (b23 : Bool), v22 = (.bool b23) ∧ R (.bool b23) h21)
    (0 ≤ (1 : Int) ∧ (1 : Int) < (2 : Nat) ∧ ∃ (s24 : ByteArray), At h16 (Addr.add (⟨b14, 0, none⟩) ((Int.toNat 1) * 1)) [.string s24] ∧ bsplit (decide ((s24.size : Int) > 100))
    (FnH Tryd.prog N_flintlaw28_fixed #[] h16 fun v26 h25 => ∃ (b27 : Bool), v26 = (.bool b27) ∧ R (.bool b27) h25)
    (0 ≤ (0 : Int) ∧ (0 : Int) < (2 : Nat) ∧ ∃ (s28 : ByteArray), At h16 (Addr.add (⟨b14, 0, none⟩) ((Int.toNat 0) * 1)) [.string s28] ∧ 0 ≤ (1 : Int) ∧ (1 : Int) < (2 : Nat) ∧
    ∃ (s29 : ByteArray), At h16 (Addr.add (⟨b14, 0, none⟩) ((Int.toNat 1) * 1)) [.string s29] ∧ FnH Tryd.prog N_tree_Tree_Set #[.pointer p5, .string s28, .string s29] h16 fun v31 h30 => ∃ (p32 : Option Addr), v31 = (.pointer p32) ∧
    I64 (n6 + 1) ∧ ∃ k10, k10 < i9 ∧ Iv8 k10 p32 (n6 + 1) h30))))
    (HNew h7 (.map #[] 0) fun b33 h34 => FnH Tryd.prog N_tree_Tree_Len #[.pointer p5] h34 fun v36 h35 => ∃ (n37 : Int), v36 = (.int .i64 n37) ∧ ∃ Iv40 : Nat → Int → Hp → Prop, (∃ i41, Iv40 i41 0 h35) ∧
    ∀ (i41 : Nat) (n38 : Int) (h39 : Hp), Iv40 i41 n38 h39 → (bsplit (decide (n38 < n37))
    (FnH Tryd.prog N_tree_Tree_At #[.pointer p5, .int .i64 n38] h39 fun v44 h43 => ∃ (s45 : ByteArray) (s46 : ByteArray) (b47 : Bool) (b48 : Bool), v44 = (.tuple #[.agg #[.string s45, .string s46, .bool b47], .bool b48]) ∧
    bsplit (!decide (s45 = E0))
    (0 ≤ (0 : Int) ∧ (0 : Int) < (s45.size : Nat) ∧ bsplit ((byteAt s45 0) == 69)
    (∃ es49, MapIs h43 (some b33) es49 ∧ keysOf (Kd.str) es49 ∧ ∃ (n50 : Int), (mfind (.string s46) es49).getD (.int .i64 0) = (.int .i64 n50) ∧ I64 (n50 + 1) ∧
    HMap (Kd.str) h43 (some b33) (.string s46) (.int .i64 (n50 + 1)) fun h51 => ∃ es52, MapIs h51 (some b33) es52 ∧ keysOf (Kd.str) es52 ∧ ∃ (n53 : Int), (mfind (.string s46) es52).getD (.int .i64 0) = (.int .i64 n53) ∧
    bsplit (decide (n53 > 1))
    (FnH Tryd.prog N_flintlaw28_fixed #[] h51 fun v55 h54 => ∃ (b56 : Bool), v55 = (.bool b56) ∧ R (.bool b56) h54)
    (I64 (n38 + 1) ∧ ∃ k42, k42 < i41 ∧ Iv40 k42 (n38 + 1) h51))
    (I64 (n38 + 1) ∧ ∃ k42, k42 < i41 ∧ Iv40 k42 (n38 + 1) h43))
    (I64 (n38 + 1) ∧ ∃ k42, k42 < i41 ∧ Iv40 k42 (n38 + 1) h43))
    (FnH Tryd.prog N_ark_Save #[.pointer p5] h39 fun v58 h57 => ∃ (a59 : Option Addr) (a59l a59c : Nat), v58 = (.slice a59 a59l a59c) ∧ FnH Tryd.prog N_ark_Load #[.slice a59 a59l a59c] h57 fun v61 h60 =>
    ∃ (a62 : Option Addr) (a62l a62c : Nat) (n63 : Int), v61 = (.tuple #[.slice a62 a62l a62c, .int .i64 n63]) ∧ FnH Tryd.prog N_flintlaw28_fixed #[] h60 fun v65 h64 => ∃ (b66 : Bool), v65 = (.bool b66) ∧ bsplit b66
    (bsplit (n63 == 0)
    (R (.bool true) h64)
    (bsplit (n63 == 17)
    (R (.bool true) h64)
    (bsplit (n63 == 3)
    (R (.bool true) h64)
    (bsplit (n63 == 2)
    (R (.bool true) h64)
    (bsplit (n63 == 15)
    (R (.bool true) h64)
    (R (.bool (n63 == 19)) h64))))))
    (R (.bool false) h64)))))
theorem F_flintlaw28_ArkAny.calls (a1 : Option Addr) (a1l a1c : Nat) (h : Hp) (R : Value → Hp → Prop) (H : F_flintlaw28_ArkAny a1 a1l a1c h R) : FnH Tryd.prog N_flintlaw28_ArkAny #[.slice a1 a1l a1c] h R :=
  vcFn_calls [(8, 8), (55, 8), (59, 8), (65, 8), (70, 8)] Tryd.func5 (.seq .none (.seq .none (.seq (.seq .none (.block (.loop ⟨[14, 15], [], [(3, false, [.ptr]), (16, false, [.int .i64])], []⟩ .none))) (.seq .none (.seq (.seq .none (.block (.loop ⟨[3, 6, 45], [], [(46, false, [.int .i64])], []⟩ .none))) .none))))) [.slice a1 a1l a1c] (Eq.mp (by unfold F_flintlaw28_ArkAny; kernel_rfl) H)
def F_flintlaw17_fixed  (h : Hp) (R : Value → Hp → Prop) : Prop :=
    FnH Tryd.prog N_tree_New #[] h fun v2 h1 => ∃ (p3 : Option Addr), v2 = (.pointer p3) ∧ FnH Tryd.prog N_view_New #[.pointer p3] h1 fun v5 h4 => ∃ (p6 : Option Addr), v5 = (.pointer p6) ∧
    FnH Tryd.prog N_walk_Find #[.pointer p6, .string (ByteArray.mk #[47, 97])] h4 fun v8 h7 =>
    ∃ (n9 : Int) (s10 : ByteArray) (n11 : Int) (n12 : Int) (n13 : Int) (n14 : Int) (n15 : Int) (n16 : Int), v8 = (.tuple #[.agg #[.int .u32 n9, .string s10, .int .u32 n11, .int .u8 n12, .int .u32 n13, .int .u32 n14, .int .u32 n15], .int .i64 n16]) ∧ bsplit (n16 == 0)
    (R (.bool (aggEq [.int .u32 n9, .string s10, .int .u32 n11, .int .u8 n12, .int .u32 n13, .int .u32 n14, .int .u32 n15] [.int .u32 1, .string (ByteArray.mk #[97]), .int .u32 0, .int .u8 0, .int .u32 0, .int .u32 0, .int .u32 0])) h7)
    (R (.bool false) h7)
theorem F_flintlaw17_fixed.calls  (h : Hp) (R : Value → Hp → Prop) (H : F_flintlaw17_fixed  h R) : FnH Tryd.prog N_flintlaw17_fixed #[] h R :=
  vcFn_calls [(1, 1)] Tryd.func6 .none [] (Eq.mp (by unfold F_flintlaw17_fixed; kernel_rfl) H)
def F_view_New (base_1 : Option Addr) (h : Hp) (R : Value → Hp → Prop) : Prop :=
    HNew h (.cells #[.pointer base_1, .pointer base_1, .pointer none, .pointer none, .slice none 0 0] T_view_View) fun b2 h3 => R (.pointer (some (⟨b2, 0, none⟩))) h3
theorem F_view_New.calls (base_1 : Option Addr) (h : Hp) (R : Value → Hp → Prop) (H : F_view_New base_1 h R) : FnH Tryd.prog N_view_New #[.pointer base_1] h R :=
  vcFn_calls [(99999, 99999)] Tryd.func7 .none [.pointer base_1] (Eq.mp (by unfold F_view_New; kernel_rfl) H)
def F_tree_New  (h : Hp) (R : Value → Hp → Prop) : Prop :=
    R (.pointer none) h
theorem F_tree_New.calls  (h : Hp) (R : Value → Hp → Prop) (H : F_tree_New  h R) : FnH Tryd.prog N_tree_New #[] h R :=
  vcFn_calls [(99999, 99999)] Tryd.func8 .none [] (Eq.mp (by unfold F_tree_New; kernel_rfl) H)
def F_flintlaw17_cut (l_1 : Option Addr) (l_1l l_1c : Nat) (h : Hp) (R : Value → Hp → Prop) : Prop :=
    ∃ Iv4 : Nat → Int → Hp → Prop, (∃ i5, Iv4 i5 0 h) ∧ ∀ (i5 : Nat) (n2 : Int) (h3 : Hp), Iv4 i5 n2 h3 → (bsplit (decide (n2 < ((l_1l : Nat) : Int)))
    (0 ≤ n2 ∧ n2 < (l_1l : Nat) ∧ ptrM l_1 fun q7 =>
    ∃ (n8 : Int) (n9 : Int) (n10 : Int) (s11 : ByteArray) (n12 : Int) (n13 : Int) (n14 : Int) (n15 : Int), At h3 (Addr.add q7 ((Int.toNat n2) * 8)) [.int .i64 n8, .int .u32 n9, .int .u32 n10, .string s11, .int .u8 n12, .int .u32 n13, .int .u32 n14, .int .u32 n15] ∧ bsplit (decide (n2 ≥ 40))
    (0 ≤ (0 : Int) ∧ (0 : Int) ≤ n2 ∧ n2 ≤ ((l_1c : Nat) : Int) ∧ R (.slice (subSl l_1 0 l_1c 8) (Int.toNat (n2 - 0)) (Int.toNat ((l_1c : Int) - 0))) h3)
    (bsplit (decide ((s11.size : Int) > 32))
    (0 ≤ (0 : Int) ∧ (0 : Int) ≤ n2 ∧ n2 ≤ ((l_1c : Nat) : Int) ∧ R (.slice (subSl l_1 0 l_1c 8) (Int.toNat (n2 - 0)) (Int.toNat ((l_1c : Int) - 0))) h3)
    (bsplit (decide (s11 = E0))
    (0 ≤ (0 : Int) ∧ (0 : Int) ≤ n2 ∧ n2 ≤ ((l_1c : Nat) : Int) ∧ R (.slice (subSl l_1 0 l_1c 8) (Int.toNat (n2 - 0)) (Int.toNat ((l_1c : Int) - 0))) h3)
    (I64 (n2 + 1) ∧ ∃ k6, k6 < i5 ∧ Iv4 k6 (n2 + 1) h3))))
    (R (.slice l_1 l_1l l_1c) h3))
theorem F_flintlaw17_cut.calls (l_1 : Option Addr) (l_1l l_1c : Nat) (h : Hp) (R : Value → Hp → Prop) (H : F_flintlaw17_cut l_1 l_1l l_1c h R) : FnH Tryd.prog N_flintlaw17_cut #[.slice l_1 l_1l l_1c] h R :=
  vcFn_calls [(4, 4), (15, 4), (21, 4)] Tryd.func9 (.seq .none (.seq (.seq .none (.block (.loop ⟨[0, 5, 6], [], [(7, false, [.int .i64])], []⟩ .none))) .none)) [.slice l_1 l_1l l_1c] (Eq.mp (by unfold F_flintlaw17_cut; kernel_rfl) H)
def F_flintlaw17_do (p1 : Option Addr) (a2 : Option Addr) (a2l a2c : Nat) (n3 : Int) (n4 : Int) (n5 : Int) (s6 : ByteArray) (n7 : Int) (n8 : Int) (n9 : Int) (n10 : Int) (h : Hp) (R : Value → Hp → Prop) : Prop :=
    bsplit (n3 == 0)
    (FnH Tryd.prog N_walk_Save #[.pointer p1, .int .u32 n5, .agg #[.int .u8 n7, .int .u32 n8, .int .u32 n9, .int .u32 n10]] h fun v12 h11 => ∃ (b13 : Bool), v12 = (.bool b13) ∧
    FnH Tryd.prog N_flintref17_Save #[.slice a2 a2l a2c, .int .u32 n5, .agg #[.int .u8 n7, .int .u32 n8, .int .u32 n9, .int .u32 n10]] h11 fun v15 h14 => ∃ (a16 : Option Addr) (a16l a16c : Nat), v15 = (.slice a16 a16l a16c) ∧
    R (.slice a16 a16l a16c) h14)
    (bsplit (n3 == 1)
    (FnH Tryd.prog N_walk_Drop #[.pointer p1, .int .u32 n5] h fun v18 h17 => ∃ (b19 : Bool), v18 = (.bool b19) ∧ FnH Tryd.prog N_flintref09_Inode #[.int .u32 n5] h17 fun v21 h20 => ∃ (s22 : ByteArray), v21 = (.string s22) ∧
    FnH Tryd.prog N_flintref10_Cut #[.slice a2 a2l a2c, .string s22] h20 fun v24 h23 => ∃ (a25 : Option Addr) (a25l a25c : Nat), v24 = (.slice a25 a25l a25c) ∧ R (.slice a25 a25l a25c) h23)
    (bsplit (n3 == 2)
    (FnH Tryd.prog N_walk_Hang #[.pointer p1, .int .u32 n4, .string s6, .int .u32 n5] h fun v27 h26 => ∃ (b28 : Bool), v27 = (.bool b28) ∧
    FnH Tryd.prog N_flintref17_Hang #[.slice a2 a2l a2c, .int .u32 n4, .string s6, .int .u32 n5] h26 fun v30 h29 => ∃ (a31 : Option Addr) (a31l a31c : Nat), v30 = (.slice a31 a31l a31c) ∧ R (.slice a31 a31l a31c) h29)
    (bsplit (n3 == 3)
    (FnH Tryd.prog N_walk_Unhang #[.pointer p1, .int .u32 n4, .string s6] h fun v33 h32 => ∃ (b34 : Bool), v33 = (.bool b34) ∧ FnH Tryd.prog N_flintref09_Entry #[.int .u32 n4, .string s6] h32 fun v36 h35 =>
    ∃ (s37 : ByteArray), v36 = (.string s37) ∧ FnH Tryd.prog N_flintref10_Cut #[.slice a2 a2l a2c, .string s37] h35 fun v39 h38 => ∃ (a40 : Option Addr) (a40l a40c : Nat), v39 = (.slice a40 a40l a40c) ∧ R (.slice a40 a40l a40c) h38)
    (FnH Tryd.prog N_flintref09_Entry #[.int .u32 n4, .string s6] h fun v42 h41 => ∃ (s43 : ByteArray), v42 = (.string s43) ∧
    FnH Tryd.prog N_view_View_Set #[.pointer p1, .string s43, .string (ByteArray.mk #[114, 97, 119])] h41 fun v45 h44 => ∃ (b46 : Bool), v45 = (.bool b46) ∧
    FnH Tryd.prog N_flintref09_Entry #[.int .u32 n4, .string s6] h44 fun v48 h47 => ∃ (s49 : ByteArray), v48 = (.string s49) ∧
    FnH Tryd.prog N_flintref10_Set #[.slice a2 a2l a2c, .string s49, .string (ByteArray.mk #[114, 97, 119])] h47 fun v51 h50 => ∃ (a52 : Option Addr) (a52l a52c : Nat), v51 = (.slice a52 a52l a52c) ∧ R (.slice a52 a52l a52c) h50))))
theorem F_flintlaw17_do.calls (p1 : Option Addr) (a2 : Option Addr) (a2l a2c : Nat) (n3 : Int) (n4 : Int) (n5 : Int) (s6 : ByteArray) (n7 : Int) (n8 : Int) (n9 : Int) (n10 : Int) (h : Hp) (R : Value → Hp → Prop) (H : F_flintlaw17_do p1 a2 a2l a2c n3 n4 n5 s6 n7 n8 n9 n10 h R) : FnH Tryd.prog N_flintlaw17_do #[.pointer p1, .slice a2 a2l a2c, .agg #[.int .i64 n3, .int .u32 n4, .int .u32 n5, .string s6, .int .u8 n7, .int .u32 n8, .int .u32 n9, .int .u32 n10]] h R :=
  vcFn_calls [(5, 5), (7, 5), (12, 5), (14, 5), (18, 5), (20, 5), (26, 5), (30, 5), (37, 5), (39, 5), (41, 5), (45, 5), (47, 5), (49, 5), (55, 5), (57, 5), (61, 5), (63, 5), (68, 5), (70, 5), (75, 5), (77, 5)] Tryd.func10 .none [.pointer p1, .slice a2 a2l a2c, .agg #[.int .i64 n3, .int .u32 n4, .int .u32 n5, .string s6, .int .u8 n7, .int .u32 n8, .int .u32 n9, .int .u32 n10]] (Eq.mp (by unfold F_flintlaw17_do; kernel_rfl) H)
def F_walk_Find (p1 : Option Addr) (s2 : ByteArray) (h : Hp) (R : Value → Hp → Prop) : Prop :=
    FnH Tryd.prog N_names_Split #[.string s2] h fun v4 h3 => ∃ (a5 : Option Addr) (a5l a5c : Nat) (n6 : Int), v4 = (.tuple #[.slice a5 a5l a5c, .int .i64 n6]) ∧ bsplit (n6 != 0)
    (R (.tuple #[.agg #[.int .u32 0, .string E0, .int .u32 0, .int .u8 0, .int .u32 0, .int .u32 0, .int .u32 0], .int .i64 n6]) h3)
    (FnH Tryd.prog N_walk_Load #[.pointer p1, .int .u32 1] h3 fun v8 h7 => ∃ (n9 : Int) (n10 : Int) (n11 : Int) (n12 : Int) (b13 : Bool), v8 = (.tuple #[.agg #[.int .u8 n9, .int .u32 n10, .int .u32 n11, .int .u32 n12], .bool b13]) ∧
    ∃ Iv30 : Nat → Int → Int → ByteArray → Int → Int → Int → Int → Int → Int → ByteArray → Int → Int → Int → Int → Int → Hp → Prop, (∃ i31, Iv30 i31 0 0 E0 0 0 0 0 0 0 E0 1 n9 n10 n11 n12 h7) ∧
    ∀ (i31 : Nat) (n14 : Int) (n15 : Int) (s16 : ByteArray) (n17 : Int) (n18 : Int) (n19 : Int) (n20 : Int) (n21 : Int) (n22 : Int) (s23 : ByteArray) (n24 : Int) (n25 : Int) (n26 : Int) (n27 : Int) (n28 : Int) (h29 : Hp), Iv30 i31 n14 n15 s16 n17 n18 n19 n20 n21 n22 s23 n24 n25 n26 n27 n28 h29 → (bsplit (decide (n14 < ((a5l : Nat) : Int)))
    (0 ≤ n14 ∧ n14 < (a5l : Nat) ∧ ptrM a5 fun q33 => ∃ (s34 : ByteArray), At h29 (Addr.add q33 ((Int.toNat n14) * 1)) [.string s34] ∧ bsplit (n24 == 0)
    (R (.tuple #[.agg #[.int .u32 0, .string E0, .int .u32 0, .int .u8 0, .int .u32 0, .int .u32 0, .int .u32 0], .int .i64 10]) h29)
    (bsplit (n25 != 2)
    (R (.tuple #[.agg #[.int .u32 0, .string E0, .int .u32 0, .int .u8 0, .int .u32 0, .int .u32 0, .int .u32 0], .int .i64 12]) h29)
    (FnH Tryd.prog N_walk_Child #[.pointer p1, .int .u32 n24, .string s34] h29 fun v36 h35 => ∃ (n37 : Int) (b38 : Bool), v36 = (.tuple #[.int .u32 n37, .bool b38]) ∧ bsplit b38
    (FnH Tryd.prog N_walk_Load #[.pointer p1, .int .u32 n37] h35 fun v40 h39 =>
    ∃ (n41 : Int) (n42 : Int) (n43 : Int) (n44 : Int) (b45 : Bool), v40 = (.tuple #[.agg #[.int .u8 n41, .int .u32 n42, .int .u32 n43, .int .u32 n44], .bool b45]) ∧ bsplit b45
    (bsplit (n37 != 0)
    (I64 (n14 + 1) ∧ ∃ k32, k32 < i31 ∧ Iv30 k32 (n14 + 1) n15 s16 n17 n18 n19 n20 n21 n24 s34 n37 n41 n42 n43 n44 h39)
    (I64 (n14 + 1) ∧ ∃ k32, k32 < i31 ∧ Iv30 k32 (n14 + 1) n15 s16 n17 n18 n19 n20 n21 n24 s34 0 0 0 0 0 h39))
    (I64 (n14 + 1) ∧ ∃ k32, k32 < i31 ∧ Iv30 k32 (n14 + 1) n15 s16 n17 n18 n19 n20 n21 n24 s34 0 0 0 0 0 h39))
    (I64 (n14 + 1) ∧ ∃ k32, k32 < i31 ∧ Iv30 k32 (n14 + 1) n15 s16 n17 n18 n19 n20 n21 n24 s34 0 0 0 0 0 h35))))
    (R (.tuple #[.agg #[.int .u32 n22, .string s23, .int .u32 n24, .int .u8 n25, .int .u32 n26, .int .u32 n27, .int .u32 n28], .int .i64 0]) h29)))
theorem F_walk_Find.calls (p1 : Option Addr) (s2 : ByteArray) (h : Hp) (R : Value → Hp → Prop) (H : F_walk_Find p1 s2 h R) : FnH Tryd.prog N_walk_Find #[.pointer p1, .string s2] h R :=
  vcFn_calls [(4, 4), (8, 8), (10, 10), (15, 15), (40, 10), (45, 10), (46, 10), (50, 10), (56, 10), (76, 10), (77, 10)] Tryd.func11 (.seq .none (.seq .none (.seq .none (.seq .none (.seq .none (.seq (.seq .none (.block (.loop ⟨[0, 33, 34], [], [(35, false, [.int .i64])], [(4, 37, [.int .u32, .str, .int .u32, .int .u8, .int .u32, .int .u32, .int .u32]), (10, 37, [.int .u32, .str, .int .u32, .int .u8, .int .u32, .int .u32, .int .u32])]⟩ .none))) .none)))))) [.pointer p1, .string s2] (Eq.mp (by unfold F_walk_Find; kernel_rfl) H)
def F_view_View_Reads (v_1 : Option Addr) (h : Hp) (R : Value → Hp → Prop) : Prop :=
    bsplit v_1.isNone
    (R (.slice none 0 0) h)
    (ptrM v_1 fun q2 => ∃ (p3 : Option Addr), At h (Addr.add q2 3) [.pointer p3] ∧ FnH Tryd.prog N_view_all #[.pointer p3] h fun v5 h4 => ∃ (a6 : Option Addr) (a6l a6c : Nat), v5 = (.slice a6 a6l a6c) ∧ ∃ Iv10 : Nat → Option Addr →
    Nat → Nat → Int → Hp → Prop, (∃ i11, Iv10 i11 none 0 0 0 h4) ∧ ∀ (i11 : Nat) (out7 : Option Addr) (out7l out7c : Nat) (n8 : Int) (h9 : Hp), Iv10 i11 out7 out7l out7c n8 h9 → (bsplit (decide (n8 < ((a6l : Nat) : Int)))
    (0 ≤ n8 ∧ n8 < (a6l : Nat) ∧ ptrM a6 fun q13 => ∃ (s14 : ByteArray) (s15 : ByteArray) (b16 : Bool), At h9 (Addr.add q13 ((Int.toNat n8) * 3)) [.string s14, .string s15, .bool b16] ∧
    HNew h9 (.cells #[.string s14] T_string) fun b17 h18 => HApp (tyOf T_string) T_string h18 out7 out7l out7c (.slice (some (⟨b17, 0, none⟩)) 1 1) fun a20 a20l a20c h19 => I64 (n8 + 1) ∧ ∃ k12, k12 < i11 ∧
    Iv10 k12 a20 a20l a20c (n8 + 1) h19)
    (R (.slice out7 out7l out7c) h9)))
theorem F_view_View_Reads.calls (v_1 : Option Addr) (h : Hp) (R : Value → Hp → Prop) (H : F_view_View_Reads v_1 h R) : FnH Tryd.prog N_view_View_Reads #[.pointer v_1] h R :=
  vcFn_calls [(5, 5), (20, 5)] Tryd.func12 (.seq .none (.seq .none (.seq .none (.seq (.seq .none (.block (.loop ⟨[13, 14], [], [(3, false, [.slice]), (15, false, [.int .i64])], []⟩ .none))) .none)))) [.pointer v_1] (Eq.mp (by unfold F_view_View_Reads; kernel_rfl) H)
def F_flintref09_Inode (ino_1 : Int) (h : Hp) (R : Value → Hp → Prop) : Prop :=
    FnH Tryd.prog N_flintref09_of #[.int .u8 73, .int .u32 ino_1] h fun v3 h2 => ∃ (s4 : ByteArray), v3 = (.string s4) ∧ R (.string s4) h2
theorem F_flintref09_Inode.calls (ino_1 : Int) (h : Hp) (R : Value → Hp → Prop) (H : F_flintref09_Inode ino_1 h R) : FnH Tryd.prog N_flintref09_Inode #[.int .u32 ino_1] h R :=
  vcFn_calls [(99999, 99999)] Tryd.func13 .none [.int .u32 ino_1] (Eq.mp (by unfold F_flintref09_Inode; kernel_rfl) H)
def F_flintref09_Entry (dir_1 : Int) (name_2 : ByteArray) (h : Hp) (R : Value → Hp → Prop) : Prop :=
    bsplit (decide ((name_2.size : Int) > 32))
    (R (.string E0) h)
    (FnH Tryd.prog N_flintref09_of #[.int .u8 69, .int .u32 dir_1] h fun v4 h3 => ∃ (s5 : ByteArray), v4 = (.string s5) ∧ s5.size + name_2.size ≤ 9223372036854775807 ∧ R (.string (s5 ++ name_2)) h3)
theorem F_flintref09_Entry.calls (dir_1 : Int) (name_2 : ByteArray) (h : Hp) (R : Value → Hp → Prop) (H : F_flintref09_Entry dir_1 name_2 h R) : FnH Tryd.prog N_flintref09_Entry #[.int .u32 dir_1, .string name_2] h R :=
  vcFn_calls [(99999, 99999)] Tryd.func14 .none [.int .u32 dir_1, .string name_2] (Eq.mp (by unfold F_flintref09_Entry; kernel_rfl) H)
def F_walk_Hang (v_1 : Option Addr) (dir_2 : Int) (name_3 : ByteArray) (ino_4 : Int) (h : Hp) (R : Value → Hp → Prop) : Prop :=
    FnH Tryd.prog N_keys_Entry #[.int .u32 dir_2, .string name_3] h fun v6 h5 => ∃ (s7 : ByteArray), v6 = (.string s7) ∧ FnH Tryd.prog N_pack_Put #[.slice none 0 0, .int .i64 4, .int .u64 (IntKind.u64.wrap ino_4)] h5 fun v9 h8 =>
    ∃ (a10 : Option Addr) (a10l a10c : Nat), v9 = (.slice a10 a10l a10c) ∧ ∃ s11 : ByteArray, Bytes h8 a10 a10l s11 ∧ FnH Tryd.prog N_view_View_Set #[.pointer v_1, .string s7, .string s11] h8 fun v13 h12 =>
    ∃ (b14 : Bool), v13 = (.bool b14) ∧ R (.bool b14) h12
theorem F_walk_Hang.calls (v_1 : Option Addr) (dir_2 : Int) (name_3 : ByteArray) (ino_4 : Int) (h : Hp) (R : Value → Hp → Prop) (H : F_walk_Hang v_1 dir_2 name_3 ino_4 h R) : FnH Tryd.prog N_walk_Hang #[.pointer v_1, .int .u32 dir_2, .string name_3, .int .u32 ino_4] h R :=
  vcFn_calls [(99999, 99999)] Tryd.func15 .none [.pointer v_1, .int .u32 dir_2, .string name_3, .int .u32 ino_4] (Eq.mp (by unfold F_walk_Hang; kernel_rfl) H)
def F_walk_Child (v_1 : Option Addr) (dir_2 : Int) (name_3 : ByteArray) (h : Hp) (R : Value → Hp → Prop) : Prop :=
    FnH Tryd.prog N_keys_Entry #[.int .u32 dir_2, .string name_3] h fun v5 h4 => ∃ (s6 : ByteArray), v5 = (.string s6) ∧ FnH Tryd.prog N_view_View_Get #[.pointer v_1, .string s6] h4 fun v8 h7 =>
    ∃ (s9 : ByteArray) (b10 : Bool), v8 = (.tuple #[.string s9, .bool b10]) ∧ ∀ cap11 : Nat, s9.size ≤ cap11 → HNew h7 (.cells ((s9.data.toList.map fun b =>
    Value.int .u8 b.toNat) ++ List.replicate (cap11 - s9.size) (Value.int .u8 0)).toArray T_uint8 (cap11, cap11 + 1)) fun b12 h13 =>
    FnH Tryd.prog N_pack_Get #[.slice (some (⟨b12, 0, none⟩)) s9.size cap11, .int .i64 0, .int .i64 4] h13 fun v15 h14 => ∃ (n16 : Int) (n17 : Int) (n18 : Int), v15 = (.tuple #[.int .u64 n16, .int .i64 n17, .int .i64 n18]) ∧
    bsplit (n18 != 0)
    (R (.tuple #[.int .u32 0, .bool false]) h14)
    (bsplit (n17 != (s9.size : Int))
    (R (.tuple #[.int .u32 0, .bool false]) h14)
    (R (.tuple #[.int .u32 (IntKind.u32.wrap n16), .bool true]) h14))
theorem F_walk_Child.calls (v_1 : Option Addr) (dir_2 : Int) (name_3 : ByteArray) (h : Hp) (R : Value → Hp → Prop) (H : F_walk_Child v_1 dir_2 name_3 h R) : FnH Tryd.prog N_walk_Child #[.pointer v_1, .int .u32 dir_2, .string name_3] h R :=
  vcFn_calls [(99999, 99999)] Tryd.func16 .none [.pointer v_1, .int .u32 dir_2, .string name_3] (Eq.mp (by unfold F_walk_Child; kernel_rfl) H)
def F_walk_Unhang (v_1 : Option Addr) (dir_2 : Int) (name_3 : ByteArray) (h : Hp) (R : Value → Hp → Prop) : Prop :=
    FnH Tryd.prog N_keys_Entry #[.int .u32 dir_2, .string name_3] h fun v5 h4 => ∃ (s6 : ByteArray), v5 = (.string s6) ∧ FnH Tryd.prog N_view_View_Cut #[.pointer v_1, .string s6] h4 fun v8 h7 => ∃ (b9 : Bool), v8 = (.bool b9) ∧
    R (.bool b9) h7
theorem F_walk_Unhang.calls (v_1 : Option Addr) (dir_2 : Int) (name_3 : ByteArray) (h : Hp) (R : Value → Hp → Prop) (H : F_walk_Unhang v_1 dir_2 name_3 h R) : FnH Tryd.prog N_walk_Unhang #[.pointer v_1, .int .u32 dir_2, .string name_3] h R :=
  vcFn_calls [(99999, 99999)] Tryd.func17 .none [.pointer v_1, .int .u32 dir_2, .string name_3] (Eq.mp (by unfold F_walk_Unhang; kernel_rfl) H)
def F_walk_List (v_1 : Option Addr) (dir_2 : Int) (h : Hp) (R : Value → Hp → Prop) : Prop :=
    FnH Tryd.prog N_keys_Entries #[.int .u32 dir_2] h fun v4 h3 => ∃ (s5 : ByteArray) (s6 : ByteArray), v4 = (.tuple #[.string s5, .string s6]) ∧ FnH Tryd.prog N_view_View_Range #[.pointer v_1, .string s5, .string s6] h3 fun v8 h7 =>
    ∃ (a9 : Option Addr) (a9l a9c : Nat), v8 = (.slice a9 a9l a9c) ∧ ∃ Iv13 : Nat → Option Addr → Nat → Nat → Int → Hp → Prop, (∃ i14, Iv13 i14 none 0 0 0 h7) ∧
    ∀ (i14 : Nat) (out10 : Option Addr) (out10l out10c : Nat) (n11 : Int) (h12 : Hp), Iv13 i14 out10 out10l out10c n11 h12 → (bsplit (decide (n11 < ((a9l : Nat) : Int)))
    (0 ≤ n11 ∧ n11 < (a9l : Nat) ∧ ptrM a9 fun q16 => ∃ (s17 : ByteArray) (s18 : ByteArray) (b19 : Bool), At h12 (Addr.add q16 ((Int.toNat n11) * 3)) [.string s17, .string s18, .bool b19] ∧ 0 ≤ (s5.size : Int) ∧
    (s5.size : Int) ≤ (s17.size : Int) ∧ (s17.size : Int) ≤ (s17.size : Int) ∧ HNew h12 (.cells #[.string (ByteArray.extract s17 (Int.toNat (s5.size : Int)) (Int.toNat (s17.size : Int)))] T_string) fun b20 h21 =>
    HApp (tyOf T_string) T_string h21 out10 out10l out10c (.slice (some (⟨b20, 0, none⟩)) 1 1) fun a23 a23l a23c h22 => I64 (n11 + 1) ∧ ∃ k15, k15 < i14 ∧ Iv13 k15 a23 a23l a23c (n11 + 1) h22)
    (R (.slice out10 out10l out10c) h12))
theorem F_walk_List.calls (v_1 : Option Addr) (dir_2 : Int) (h : Hp) (R : Value → Hp → Prop) (H : F_walk_List v_1 dir_2 h R) : FnH Tryd.prog N_walk_List #[.pointer v_1, .int .u32 dir_2] h R :=
  vcFn_calls [(9, 9), (25, 9)] Tryd.func18 (.seq .none (.seq .none (.seq .none (.seq (.seq .none (.block (.loop ⟨[5, 18, 19], [], [(7, false, [.slice]), (20, false, [.int .i64])], []⟩ .none))) .none)))) [.pointer v_1, .int .u32 dir_2] (Eq.mp (by unfold F_walk_List; kernel_rfl) H)
def F_flintref17_List (l_1 : Option Addr) (l_1l l_1c : Nat) (dir_2 : Int) (h : Hp) (R : Value → Hp → Prop) : Prop :=
    HNew h (.cells #[] T_string) fun b3 h4 => ∃ Iv8 : Nat → Option Addr → Nat → Nat → Int → Hp → Prop, (∃ i9, Iv8 i9 (some (⟨b3, 0, none⟩)) 0 0 0 h4) ∧
    ∀ (i9 : Nat) (out5 : Option Addr) (out5l out5c : Nat) (n6 : Int) (h7 : Hp), Iv8 i9 out5 out5l out5c n6 h7 → (bsplit (decide (n6 < ((l_1l : Nat) : Int)))
    (0 ≤ n6 ∧ n6 < (l_1l : Nat) ∧ ptrM l_1 fun q11 => ∃ (s12 : ByteArray), At h7 (Addr.add (Addr.add q11 ((Int.toNat n6) * 3)) 0) [.string s12] ∧ FnH Tryd.prog N_flintref09_Split #[.string s12] h7 fun v14 h13 =>
    ∃ (n15 : Int) (n16 : Int) (s17 : ByteArray) (n18 : Int), v14 = (.tuple #[.int .u8 n15, .int .u32 n16, .string s17, .int .i64 n18]) ∧ bsplit (n15 == 69)
    (bsplit (n16 == dir_2)
    (HNew h13 (.cells #[.string s17] T_string) fun b19 h20 => HApp (tyOf T_string) T_string h20 out5 out5l out5c (.slice (some (⟨b19, 0, none⟩)) 1 1) fun a22 a22l a22c h21 => I64 (n6 + 1) ∧ ∃ k10, k10 < i9 ∧
    Iv8 k10 a22 a22l a22c (n6 + 1) h21)
    (I64 (n6 + 1) ∧ ∃ k10, k10 < i9 ∧ Iv8 k10 out5 out5l out5c (n6 + 1) h13))
    (I64 (n6 + 1) ∧ ∃ k10, k10 < i9 ∧ Iv8 k10 out5 out5l out5c (n6 + 1) h13))
    (R (.slice out5 out5l out5c) h7))
theorem F_flintref17_List.calls (l_1 : Option Addr) (l_1l l_1c : Nat) (dir_2 : Int) (h : Hp) (R : Value → Hp → Prop) (H : F_flintref17_List l_1 l_1l l_1c dir_2 h R) : FnH Tryd.prog N_flintref17_List #[.slice l_1 l_1l l_1c, .int .u32 dir_2] h R :=
  vcFn_calls [(99999, 99999)] Tryd.func19 (.seq .none (.seq .none (.seq (.seq .none (.block (.loop ⟨[0, 1, 13], [], [(5, false, [.slice]), (14, false, [.int .i64])], []⟩ .none))) .none))) [.slice l_1 l_1l l_1c, .int .u32 dir_2] (Eq.mp (by unfold F_flintref17_List; kernel_rfl) H)
def F_flintref10_Cut (l_1 : Option Addr) (l_1l l_1c : Nat) (key_2 : ByteArray) (h : Hp) (R : Value → Hp → Prop) : Prop :=
    HNew h (.cells #[] T_api_Pair) fun b3 h4 => ∃ Iv8 : Nat → Option Addr → Nat → Nat → Int → Hp → Prop, (∃ i9, Iv8 i9 (some (⟨b3, 0, none⟩)) 0 0 0 h4) ∧
    ∀ (i9 : Nat) (out5 : Option Addr) (out5l out5c : Nat) (n6 : Int) (h7 : Hp), Iv8 i9 out5 out5l out5c n6 h7 → (bsplit (decide (n6 < ((l_1l : Nat) : Int)))
    (0 ≤ n6 ∧ n6 < (l_1l : Nat) ∧ ptrM l_1 fun q11 => ∃ (s12 : ByteArray), At h7 (Addr.add (Addr.add q11 ((Int.toNat n6) * 3)) 0) [.string s12] ∧ bsplit (!decide (s12 = key_2))
    (0 ≤ n6 ∧ n6 < (l_1l : Nat) ∧ ptrM l_1 fun q13 => ∃ (s14 : ByteArray) (s15 : ByteArray) (b16 : Bool), At h7 (Addr.add q13 ((Int.toNat n6) * 3)) [.string s14, .string s15, .bool b16] ∧
    HNew h7 (.cells #[.string s14, .string s15, .bool b16] T_api_Pair) fun b17 h18 => HApp (tyOf T_api_Pair) T_api_Pair h18 out5 out5l out5c (.slice (some (⟨b17, 0, none⟩)) 1 1) fun a20 a20l a20c h19 => I64 (n6 + 1) ∧
    ∃ k10, k10 < i9 ∧ Iv8 k10 a20 a20l a20c (n6 + 1) h19)
    (I64 (n6 + 1) ∧ ∃ k10, k10 < i9 ∧ Iv8 k10 out5 out5l out5c (n6 + 1) h7))
    (R (.slice out5 out5l out5c) h7))
theorem F_flintref10_Cut.calls (l_1 : Option Addr) (l_1l l_1c : Nat) (key_2 : ByteArray) (h : Hp) (R : Value → Hp → Prop) (H : F_flintref10_Cut l_1 l_1l l_1c key_2 h R) : FnH Tryd.prog N_flintref10_Cut #[.slice l_1 l_1l l_1c, .string key_2] h R :=
  vcFn_calls [(99999, 99999)] Tryd.func20 (.seq .none (.seq .none (.seq (.seq .none (.block (.loop ⟨[0, 1, 9], [], [(5, false, [.slice]), (10, false, [.int .i64])], []⟩ .none))) .none))) [.slice l_1 l_1l l_1c, .string key_2] (Eq.mp (by unfold F_flintref10_Cut; kernel_rfl) H)
def F_flintlaw28_fixed  (h : Hp) (R : Value → Hp → Prop) : Prop :=
    HNew h (.cells #[.int .u8 102, .int .u8 2, .int .u8 47, .int .u8 97, .int .u8 0, .int .u8 2, .int .u8 120, .int .u8 121] T_uint8) fun b1 h2 => HMark h2 (some (⟨b1, 0, none⟩)) fun h4 =>
    FnH Tryd.prog N_ark_Load #[.slice (some (⟨b1, 0, none⟩)) 8 8] h4 fun v6 h5 => ∃ (a7 : Option Addr) (a7l a7c : Nat) (n8 : Int), v6 = (.tuple #[.slice a7 a7l a7c, .int .i64 n8]) ∧ bsplit (n8 == 0)
    (bsplit (((a7l : Nat) : Int) == 4)
    (0 ≤ (2 : Int) ∧ (2 : Int) < (a7l : Nat) ∧ ptrM a7 fun q9 => ∃ (n10 : Int), At h5 (Addr.add (Addr.add q9 ((Int.toNat 2) * 7)) 0) [.int .u8 n10] ∧ bsplit (n10 == 9)
    (0 ≤ (2 : Int) ∧ (2 : Int) < (a7l : Nat) ∧ ptrM a7 fun q11 => ∃ (a12 : Option Addr) (a12l a12c : Nat), At h5 (Addr.add (Addr.add q11 ((Int.toNat 2) * 7)) 6) [.slice a12 a12l a12c] ∧ ∃ s13 : ByteArray, Bytes h5 a12 a12l s13 ∧
    bsplit (decide (s13 = (ByteArray.mk #[120, 121])))
    (HNew h5 (.cells #[.int .u8 102, .int .u8 2, .int .u8 47, .int .u8 97, .int .u8 0, .int .u8 2, .int .u8 120, .int .u8 121] T_uint8) fun b14 h15 => HMark h15 (some (⟨b14, 0, none⟩)) fun h17 =>
    FnH Tryd.prog N_ark_Count #[.slice (some (⟨b14, 0, none⟩)) 8 8] h17 fun v19 h18 => ∃ (n20 : Int), v19 = (.int .i64 n20) ∧ R (.bool (n20 == 1)) h18)
    (R (.bool false) h5))
    (R (.bool false) h5))
    (R (.bool false) h5))
    (R (.bool false) h5)
theorem F_flintlaw28_fixed.calls  (h : Hp) (R : Value → Hp → Prop) (H : F_flintlaw28_fixed  h R) : FnH Tryd.prog N_flintlaw28_fixed #[] h R :=
  vcFn_calls [(99999, 99999)] Tryd.func21 .none [] (Eq.mp (by unfold F_flintlaw28_fixed; kernel_rfl) H)
def F_tree_Tree_Set (p1 : Option Addr) (s2 : ByteArray) (s3 : ByteArray) (h : Hp) (R : Value → Hp → Prop) : Prop :=
    bsplit p1.isNone
    (HNew h (.cells #[.string s2, .string s3, .pointer none, .pointer none, .int .i64 1, .int .i64 1] T_tree_Tree) fun b4 h5 => R (.pointer (some (⟨b4, 0, none⟩))) h5)
    (ptrM p1 fun q6 => ∃ (s7 : ByteArray), At h (Addr.add q6 0) [.string s7] ∧ bsplit (strLt s2 s7)
    (∃ S8 : Hp → Prop, S8 h ∧ ptrM p1 fun q9 => ∃ (p10 : Option Addr), (∀ g, S8 g → At g (Addr.add q9 2) [.pointer p10]) ∧ FnH Tryd.prog N_tree_Tree_Set #[.pointer p10, .string s2, .string s3] h fun v12 h11 =>
    ∃ (p13 : Option Addr), v12 = (.pointer p13) ∧ S8 h11 ∧ ptrM p1 fun q14 => ∃ (p15 : Option Addr), (∀ g, S8 g → At g (Addr.add q14 3) [.pointer p15]) ∧
    FnH Tryd.prog N_tree_Tree_join #[.pointer p1, .pointer p13, .pointer p15] h11 fun v17 h16 => ∃ (p18 : Option Addr), v17 = (.pointer p18) ∧ R (.pointer p18) h16)
    (ptrM p1 fun q19 => ∃ (s20 : ByteArray), At h (Addr.add q19 0) [.string s20] ∧ bsplit (!(strLt s2 s20 || decide (s2 = s20)))
    (∃ S21 : Hp → Prop, S21 h ∧ ptrM p1 fun q22 => ∃ (p23 : Option Addr), (∀ g, S21 g → At g (Addr.add q22 2) [.pointer p23]) ∧ ptrM p1 fun q24 => ∃ (p25 : Option Addr), (∀ g, S21 g → At g (Addr.add q24 3) [.pointer p25]) ∧
    FnH Tryd.prog N_tree_Tree_Set #[.pointer p25, .string s2, .string s3] h fun v27 h26 => ∃ (p28 : Option Addr), v27 = (.pointer p28) ∧ S21 h26 ∧
    FnH Tryd.prog N_tree_Tree_join #[.pointer p1, .pointer p23, .pointer p28] h26 fun v30 h29 => ∃ (p31 : Option Addr), v30 = (.pointer p31) ∧ R (.pointer p31) h29)
    (ptrM p1 fun q32 => ∃ (p33 : Option Addr), At h (Addr.add q32 2) [.pointer p33] ∧ ptrM p1 fun q34 => ∃ (p35 : Option Addr), At h (Addr.add q34 3) [.pointer p35] ∧ ptrM p1 fun q36 =>
    ∃ (n37 : Int), At h (Addr.add q36 4) [.int .i64 n37] ∧ ptrM p1 fun q38 => ∃ (n39 : Int), At h (Addr.add q38 5) [.int .i64 n39] ∧
    HNew h (.cells #[.string s2, .string s3, .pointer p33, .pointer p35, .int .i64 n37, .int .i64 n39] T_tree_Tree) fun b40 h41 => R (.pointer (some (⟨b40, 0, none⟩))) h41)))
theorem F_tree_Tree_Set.calls (p1 : Option Addr) (s2 : ByteArray) (s3 : ByteArray) (h : Hp) (R : Value → Hp → Prop) (H : F_tree_Tree_Set p1 s2 s3 h R) : FnH Tryd.prog N_tree_Tree_Set #[.pointer p1, .string s2, .string s3] h R :=
  vcFn_calls [(99999, 99999)] Tryd.func22 .none [.pointer p1, .string s2, .string s3] (Eq.mp (by unfold F_tree_Tree_Set; kernel_rfl) H)
def F_tree_Tree_Len (t_1 : Option Addr) (h : Hp) (R : Value → Hp → Prop) : Prop :=
    bsplit t_1.isNone
    (R (.int .i64 0) h)
    (ptrM t_1 fun q2 => ∃ (n3 : Int), At h (Addr.add q2 4) [.int .i64 n3] ∧ R (.int .i64 n3) h)
theorem F_tree_Tree_Len.calls (t_1 : Option Addr) (h : Hp) (R : Value → Hp → Prop) (H : F_tree_Tree_Len t_1 h R) : FnH Tryd.prog N_tree_Tree_Len #[.pointer t_1] h R :=
  vcFn_calls [(99999, 99999)] Tryd.func23 .none [.pointer t_1] (Eq.mp (by unfold F_tree_Tree_Len; kernel_rfl) H)
def F_tree_Tree_At (t_1 : Option Addr) (i_2 : Int) (h : Hp) (R : Value → Hp → Prop) : Prop :=
    ∃ Iv9 : Nat → Option Addr → Int → ByteArray → ByteArray → Bool → Hp → Prop, (∃ i10, Iv9 i10 t_1 i_2 E0 E0 false h) ∧
    ∀ (i10 : Nat) (t3 : Option Addr) (i4 : Int) (s5 : ByteArray) (s6 : ByteArray) (b7 : Bool) (h8 : Hp), Iv9 i10 t3 i4 s5 s6 b7 h8 → (bsplit (!t3.isNone)
    (ptrM t3 fun q12 => ∃ (p13 : Option Addr), At h8 (Addr.add q12 2) [.pointer p13] ∧ FnH Tryd.prog N_tree_Tree_Len #[.pointer p13] h8 fun v15 h14 => ∃ (n16 : Int), v15 = (.int .i64 n16) ∧ bsplit (decide (i4 < n16))
    (ptrM t3 fun q17 => ∃ (p18 : Option Addr), At h14 (Addr.add q17 2) [.pointer p18] ∧ ∃ k11, k11 < i10 ∧ Iv9 k11 p18 i4 s5 s6 b7 h14)
    (bsplit (decide (i4 > n16))
    (I64 (n16 + 1) ∧ I64 (i4 - (n16 + 1)) ∧ ptrM t3 fun q19 => ∃ (p20 : Option Addr), At h14 (Addr.add q19 3) [.pointer p20] ∧ ∃ k11, k11 < i10 ∧ Iv9 k11 p20 (i4 - (n16 + 1)) s5 s6 b7 h14)
    (ptrM t3 fun q21 => ∃ (s22 : ByteArray), At h14 (Addr.add q21 0) [.string s22] ∧ ptrM t3 fun q23 => ∃ (s24 : ByteArray), At h14 (Addr.add q23 1) [.string s24] ∧
    R (.tuple #[.agg #[.string s22, .string s24, .bool false], .bool true]) h14)))
    (R (.tuple #[.agg #[.string E0, .string E0, .bool false], .bool false]) h8))
theorem F_tree_Tree_At.calls (t_1 : Option Addr) (i_2 : Int) (h : Hp) (R : Value → Hp → Prop) (H : F_tree_Tree_At t_1 i_2 h R) : FnH Tryd.prog N_tree_Tree_At #[.pointer t_1, .int .i64 i_2] h R :=
  vcFn_calls [(4, 4)] Tryd.func24 (.seq .none (.seq (.block (.loop ⟨[], [], [(0, false, [.ptr]), (1, false, [.int .i64])], [(4, 61, [.str, .str, .bool])]⟩ .none)) .none)) [.pointer t_1, .int .i64 i_2] (Eq.mp (by unfold F_tree_Tree_At; kernel_rfl) H)
def F_ark_Save (t_1 : Option Addr) (h : Hp) (R : Value → Hp → Prop) : Prop :=
    FnH Tryd.prog N_view_New #[.pointer t_1] h fun v3 h2 => ∃ (p4 : Option Addr), v3 = (.pointer p4) ∧ HNew h2 (.map #[] 0) fun b5 h6 => HNew h6 (.cells #[.pointer p4, .map (some b5), .slice none 0 0] T_ark_saver) fun b7 h8 =>
    FnH Tryd.prog N_ark_saver_dir #[.pointer (some (⟨b7, 0, none⟩)), .string E0, .int .u32 1, .int .i64 0] h8 fun v10 h9 => v10 = (.tuple #[]) ∧
    ∃ (a11 : Option Addr) (a11l a11c : Nat), At h9 (Addr.add (⟨b7, 0, none⟩) 2) [.slice a11 a11l a11c] ∧ R (.slice a11 a11l a11c) h9
theorem F_ark_Save.calls (t_1 : Option Addr) (h : Hp) (R : Value → Hp → Prop) (H : F_ark_Save t_1 h R) : FnH Tryd.prog N_ark_Save #[.pointer t_1] h R :=
  vcFn_calls [(99999, 99999)] Tryd.func25 .none [.pointer t_1] (Eq.mp (by unfold F_ark_Save; kernel_rfl) H)
def F_ark_Load (b_1 : Option Addr) (b_1l b_1c : Nat) (h : Hp) (R : Value → Hp → Prop) : Prop :=
    FnH Tryd.prog N_ark_load #[.slice b_1 b_1l b_1c] h fun v3 h2 => ∃ (a4 : Option Addr) (a4l a4c : Nat) (n5 : Int) (n6 : Int), v3 = (.tuple #[.slice a4 a4l a4c, .int .i64 n5, .int .i64 n6]) ∧
    R (.tuple #[.slice a4 a4l a4c, .int .i64 n6]) h2
theorem F_ark_Load.calls (b_1 : Option Addr) (b_1l b_1c : Nat) (h : Hp) (R : Value → Hp → Prop) (H : F_ark_Load b_1 b_1l b_1c h R) : FnH Tryd.prog N_ark_Load #[.slice b_1 b_1l b_1c] h R :=
  vcFn_calls [(99999, 99999)] Tryd.func26 .none [.slice b_1 b_1l b_1c] (Eq.mp (by unfold F_ark_Load; kernel_rfl) H)
def F_walk_Save (v_1 : Option Addr) (ino_2 : Int) (x_3 : Int) (x_4 : Int) (x_5 : Int) (x_6 : Int) (h : Hp) (R : Value → Hp → Prop) : Prop :=
    ∃ S7 : Hp → Prop, S7 h ∧ FnH Tryd.prog N_keys_Inode #[.int .u32 ino_2] h fun v9 h8 => ∃ (s10 : ByteArray), v9 = (.string s10) ∧ S7 h8 ∧
    FnH Tryd.prog N_node_Put #[.agg #[.int .u8 x_3, .int .u32 x_4, .int .u32 x_5, .int .u32 x_6]] h8 fun v12 h11 => ∃ (s13 : ByteArray), v12 = (.string s13) ∧ S7 h11 ∧
    FnH Tryd.prog N_view_View_Set #[.pointer v_1, .string s10, .string s13] h11 fun v15 h14 => ∃ (b16 : Bool), v15 = (.bool b16) ∧ R (.bool b16) h14
theorem F_walk_Save.calls (v_1 : Option Addr) (ino_2 : Int) (x_3 : Int) (x_4 : Int) (x_5 : Int) (x_6 : Int) (h : Hp) (R : Value → Hp → Prop) (H : F_walk_Save v_1 ino_2 x_3 x_4 x_5 x_6 h R) : FnH Tryd.prog N_walk_Save #[.pointer v_1, .int .u32 ino_2, .agg #[.int .u8 x_3, .int .u32 x_4, .int .u32 x_5, .int .u32 x_6]] h R :=
  vcFn_calls [(5, 5)] Tryd.func27 .none [.pointer v_1, .int .u32 ino_2, .agg #[.int .u8 x_3, .int .u32 x_4, .int .u32 x_5, .int .u32 x_6]] (Eq.mp (by unfold F_walk_Save; kernel_rfl) H)
def F_flintref17_Save (l_1 : Option Addr) (l_1l l_1c : Nat) (ino_2 : Int) (x_3 : Int) (x_4 : Int) (x_5 : Int) (x_6 : Int) (h : Hp) (R : Value → Hp → Prop) : Prop :=
    ∃ S7 : Hp → Prop, S7 h ∧ FnH Tryd.prog N_flintref09_Inode #[.int .u32 ino_2] h fun v9 h8 => ∃ (s10 : ByteArray), v9 = (.string s10) ∧ S7 h8 ∧
    FnH Tryd.prog N_flintref15_Put #[.agg #[.int .u8 x_3, .int .u32 x_4, .int .u32 x_5, .int .u32 x_6]] h8 fun v12 h11 => ∃ (s13 : ByteArray), v12 = (.string s13) ∧ S7 h11 ∧
    FnH Tryd.prog N_flintref10_Set #[.slice l_1 l_1l l_1c, .string s10, .string s13] h11 fun v15 h14 => ∃ (a16 : Option Addr) (a16l a16c : Nat), v15 = (.slice a16 a16l a16c) ∧ R (.slice a16 a16l a16c) h14
theorem F_flintref17_Save.calls (l_1 : Option Addr) (l_1l l_1c : Nat) (ino_2 : Int) (x_3 : Int) (x_4 : Int) (x_5 : Int) (x_6 : Int) (h : Hp) (R : Value → Hp → Prop) (H : F_flintref17_Save l_1 l_1l l_1c ino_2 x_3 x_4 x_5 x_6 h R) : FnH Tryd.prog N_flintref17_Save #[.slice l_1 l_1l l_1c, .int .u32 ino_2, .agg #[.int .u8 x_3, .int .u32 x_4, .int .u32 x_5, .int .u32 x_6]] h R :=
  vcFn_calls [(5, 5)] Tryd.func28 .none [.slice l_1 l_1l l_1c, .int .u32 ino_2, .agg #[.int .u8 x_3, .int .u32 x_4, .int .u32 x_5, .int .u32 x_6]] (Eq.mp (by unfold F_flintref17_Save; kernel_rfl) H)
def F_walk_Drop (v_1 : Option Addr) (ino_2 : Int) (h : Hp) (R : Value → Hp → Prop) : Prop :=
    FnH Tryd.prog N_keys_Inode #[.int .u32 ino_2] h fun v4 h3 => ∃ (s5 : ByteArray), v4 = (.string s5) ∧ FnH Tryd.prog N_view_View_Cut #[.pointer v_1, .string s5] h3 fun v7 h6 => ∃ (b8 : Bool), v7 = (.bool b8) ∧ R (.bool b8) h6
theorem F_walk_Drop.calls (v_1 : Option Addr) (ino_2 : Int) (h : Hp) (R : Value → Hp → Prop) (H : F_walk_Drop v_1 ino_2 h R) : FnH Tryd.prog N_walk_Drop #[.pointer v_1, .int .u32 ino_2] h R :=
  vcFn_calls [(99999, 99999)] Tryd.func29 .none [.pointer v_1, .int .u32 ino_2] (Eq.mp (by unfold F_walk_Drop; kernel_rfl) H)
def F_flintref17_Hang (l_1 : Option Addr) (l_1l l_1c : Nat) (dir_2 : Int) (name_3 : ByteArray) (ino_4 : Int) (h : Hp) (R : Value → Hp → Prop) : Prop :=
    FnH Tryd.prog N_flintref09_Entry #[.int .u32 dir_2, .string name_3] h fun v6 h5 => ∃ (s7 : ByteArray), v6 = (.string s7) ∧ HNew h5 (.cells #[] T_uint8) fun b8 h9 =>
    FnH Tryd.prog N_flintref03_Put #[.slice (some (⟨b8, 0, none⟩)) 0 0, .int .i64 4, .int .u64 (IntKind.u64.wrap ino_4)] h9 fun v11 h10 => ∃ (a12 : Option Addr) (a12l a12c : Nat), v11 = (.slice a12 a12l a12c) ∧
    ∃ s13 : ByteArray, Bytes h10 a12 a12l s13 ∧ FnH Tryd.prog N_flintref10_Set #[.slice l_1 l_1l l_1c, .string s7, .string s13] h10 fun v15 h14 => ∃ (a16 : Option Addr) (a16l a16c : Nat), v15 = (.slice a16 a16l a16c) ∧
    R (.slice a16 a16l a16c) h14
theorem F_flintref17_Hang.calls (l_1 : Option Addr) (l_1l l_1c : Nat) (dir_2 : Int) (name_3 : ByteArray) (ino_4 : Int) (h : Hp) (R : Value → Hp → Prop) (H : F_flintref17_Hang l_1 l_1l l_1c dir_2 name_3 ino_4 h R) : FnH Tryd.prog N_flintref17_Hang #[.slice l_1 l_1l l_1c, .int .u32 dir_2, .string name_3, .int .u32 ino_4] h R :=
  vcFn_calls [(99999, 99999)] Tryd.func30 .none [.slice l_1 l_1l l_1c, .int .u32 dir_2, .string name_3, .int .u32 ino_4] (Eq.mp (by unfold F_flintref17_Hang; kernel_rfl) H)
def F_view_View_Set (v_1 : Option Addr) (key_2 : ByteArray) (value_3 : ByteArray) (h : Hp) (R : Value → Hp → Prop) : Prop :=
    FnH Tryd.prog N_view_View_room #[.pointer v_1, .string key_2] h fun v5 h4 => ∃ (b6 : Bool), v5 = (.bool b6) ∧ bsplit (!b6)
    (R (.bool false) h4)
    (ptrM v_1 fun q7 => ∃ (p8 : Option Addr), At h4 (Addr.add q7 2) [.pointer p8] ∧ (ByteArray.mk #[61]).size + value_3.size ≤ 9223372036854775807 ∧
    FnH Tryd.prog N_tree_Tree_Set #[.pointer p8, .string key_2, .string ((ByteArray.mk #[61]) ++ value_3)] h4 fun v10 h9 => ∃ (p11 : Option Addr), v10 = (.pointer p11) ∧ ptrM v_1 fun q12 =>
    HSt h9 (Addr.add q12 2) [.pointer p11] fun h13 => ptrM v_1 fun q14 => ∃ (p15 : Option Addr), At h13 (Addr.add q14 1) [.pointer p15] ∧
    FnH Tryd.prog N_tree_Tree_Set #[.pointer p15, .string key_2, .string value_3] h13 fun v17 h16 => ∃ (p18 : Option Addr), v17 = (.pointer p18) ∧ ptrM v_1 fun q19 => HSt h16 (Addr.add q19 1) [.pointer p18] fun h20 =>
    R (.bool true) h20)
theorem F_view_View_Set.calls (v_1 : Option Addr) (key_2 : ByteArray) (value_3 : ByteArray) (h : Hp) (R : Value → Hp → Prop) (H : F_view_View_Set v_1 key_2 value_3 h R) : FnH Tryd.prog N_view_View_Set #[.pointer v_1, .string key_2, .string value_3] h R :=
  vcFn_calls [(99999, 99999)] Tryd.func31 .none [.pointer v_1, .string key_2, .string value_3] (Eq.mp (by unfold F_view_View_Set; kernel_rfl) H)
def F_flintref10_Set (l_1 : Option Addr) (l_1l l_1c : Nat) (key_2 : ByteArray) (value_3 : ByteArray) (h : Hp) (R : Value → Hp → Prop) : Prop :=
    HNew h (.cells #[] T_api_Pair) fun b4 h5 => ∃ Iv10 : Nat → Option Addr → Nat → Nat → Bool → Int → Hp → Prop, (∃ i11, Iv10 i11 (some (⟨b4, 0, none⟩)) 0 0 false 0 h5) ∧
    ∀ (i11 : Nat) (out6 : Option Addr) (out6l out6c : Nat) (done7 : Bool) (n8 : Int) (h9 : Hp), Iv10 i11 out6 out6l out6c done7 n8 h9 → (bsplit (decide (n8 < ((l_1l : Nat) : Int)))
    (∀ J16 : Option Addr → Nat → Nat → Bool → Hp → Prop, (∀ (out13 : Option Addr) (out13l out13c : Nat) (done14 : Bool) (h15 : Hp), (0 ≤ n8 ∧ n8 < (l_1l : Nat) ∧ ptrM l_1 fun q17 =>
    ∃ (s18 : ByteArray), At h15 (Addr.add (Addr.add q17 ((Int.toNat n8) * 3)) 0) [.string s18] ∧ bsplit (!decide (s18 = key_2))
    (0 ≤ n8 ∧ n8 < (l_1l : Nat) ∧ ptrM l_1 fun q19 => ∃ (s20 : ByteArray) (s21 : ByteArray) (b22 : Bool), At h15 (Addr.add q19 ((Int.toNat n8) * 3)) [.string s20, .string s21, .bool b22] ∧
    HNew h15 (.cells #[.string s20, .string s21, .bool b22] T_api_Pair) fun b23 h24 => HApp (tyOf T_api_Pair) T_api_Pair h24 out13 out13l out13c (.slice (some (⟨b23, 0, none⟩)) 1 1) fun a26 a26l a26c h25 => I64 (n8 + 1) ∧
    ∃ k12, k12 < i11 ∧ Iv10 k12 a26 a26l a26c done14 (n8 + 1) h25)
    (I64 (n8 + 1) ∧ ∃ k12, k12 < i11 ∧ Iv10 k12 out13 out13l out13c done14 (n8 + 1) h15)) → J16 out13 out13l out13c done14 h15) → bsplit (!done7)
    (0 ≤ n8 ∧ n8 < (l_1l : Nat) ∧ ptrM l_1 fun q27 => ∃ (s28 : ByteArray), At h9 (Addr.add (Addr.add q27 ((Int.toNat n8) * 3)) 0) [.string s28] ∧ bsplit (strLt key_2 s28 || decide (key_2 = s28))
    (HNew h9 (.cells #[.string key_2, .string value_3, .bool false] T_api_Pair) fun b29 h30 => HApp (tyOf T_api_Pair) T_api_Pair h30 out6 out6l out6c (.slice (some (⟨b29, 0, none⟩)) 1 1) fun a32 a32l a32c h31 =>
    J16 a32 a32l a32c true h31)
    (J16 out6 out6l out6c done7 h9))
    (J16 out6 out6l out6c done7 h9))
    (bsplit (!done7)
    (HNew h9 (.cells #[.string key_2, .string value_3, .bool false] T_api_Pair) fun b33 h34 => HApp (tyOf T_api_Pair) T_api_Pair h34 out6 out6l out6c (.slice (some (⟨b33, 0, none⟩)) 1 1) fun a36 a36l a36c h35 =>
    R (.slice a36 a36l a36c) h35)
    (R (.slice out6 out6l out6c) h9)))
theorem F_flintref10_Set.calls (l_1 : Option Addr) (l_1l l_1c : Nat) (key_2 : ByteArray) (value_3 : ByteArray) (h : Hp) (R : Value → Hp → Prop) (H : F_flintref10_Set l_1 l_1l l_1c key_2 value_3 h R) : FnH Tryd.prog N_flintref10_Set #[.slice l_1 l_1l l_1c, .string key_2, .string value_3] h R :=
  vcFn_calls [(99999, 99999)] Tryd.func32 (.seq .none (.seq .none (.seq .none (.seq (.seq .none (.block (.loop ⟨[0, 1, 2, 12], [], [(7, false, [.slice]), (8, false, [.bool]), (13, false, [.int .i64])], []⟩ (.seq .none (.seq .none (.seq (.block (.seq .none (.join ⟨[0, 1, 2, 9, 12, 13], [], [(7, false, [.slice]), (8, false, [.bool])], []⟩ .none .none))) .none)))))) .none)))) [.slice l_1 l_1l l_1c, .string key_2, .string value_3] (Eq.mp (by unfold F_flintref10_Set; kernel_rfl) H)
def F_names_Split (path_1 : ByteArray) (h : Hp) (R : Value → Hp → Prop) : Prop :=
    bsplit (decide (path_1 = E0))
    (R (.tuple #[.slice none 0 0, .int .i64 17]) h)
    (bsplit (decide ((path_1.size : Int) > 255))
    (R (.tuple #[.slice none 0 0, .int .i64 17]) h)
    (0 ≤ (0 : Int) ∧ (0 : Int) < (path_1.size : Nat) ∧ bsplit ((byteAt path_1 0) != 47)
    (R (.tuple #[.slice none 0 0, .int .i64 15]) h)
    (bsplit (decide (path_1 = (ByteArray.mk #[47])))
    (R (.tuple #[.slice none 0 0, .int .i64 0]) h)
    (0 ≤ (1 : Int) ∧ (1 : Int) ≤ (path_1.size : Int) ∧ (path_1.size : Int) ≤ (path_1.size : Int) ∧
    FnH Tryd.prog N_strings_Split #[.string (ByteArray.extract path_1 (Int.toNat 1) (Int.toNat (path_1.size : Int))), .string (ByteArray.mk #[47])] h fun v3 h2 => ∃ (a4 : Option Addr) (a4l a4c : Nat), v3 = (.slice a4 a4l a4c) ∧
    FnH Tryd.prog N_names_may #[.slice a4 a4l a4c] h2 fun v6 h5 => ∃ (b7 : Bool), v6 = (.bool b7) ∧ bsplit (!b7)
    (R (.tuple #[.slice none 0 0, .int .i64 17]) h5)
    (R (.tuple #[.slice a4 a4l a4c, .int .i64 0]) h5)))))
theorem F_names_Split.calls (path_1 : ByteArray) (h : Hp) (R : Value → Hp → Prop) (H : F_names_Split path_1 h R) : FnH Tryd.prog N_names_Split #[.string path_1] h R :=
  vcFn_calls [(99999, 99999)] Tryd.func33 .none [.string path_1] (Eq.mp (by unfold F_names_Split; kernel_rfl) H)
def F_walk_Load (v_1 : Option Addr) (ino_2 : Int) (h : Hp) (R : Value → Hp → Prop) : Prop :=
    FnH Tryd.prog N_keys_Inode #[.int .u32 ino_2] h fun v4 h3 => ∃ (s5 : ByteArray), v4 = (.string s5) ∧ FnH Tryd.prog N_view_View_Get #[.pointer v_1, .string s5] h3 fun v7 h6 =>
    ∃ (s8 : ByteArray) (b9 : Bool), v7 = (.tuple #[.string s8, .bool b9]) ∧ bsplit (!b9)
    (bsplit (ino_2 == 1)
    (FnH Tryd.prog N_node_Root #[] h6 fun v11 h10 => ∃ (n12 : Int) (n13 : Int) (n14 : Int) (n15 : Int), v11 = (.agg #[.int .u8 n12, .int .u32 n13, .int .u32 n14, .int .u32 n15]) ∧
    R (.tuple #[.agg #[.int .u8 n12, .int .u32 n13, .int .u32 n14, .int .u32 n15], .bool true]) h10)
    (FnH Tryd.prog N_node_Get #[.string s8] h6 fun v17 h16 => ∃ (n18 : Int) (n19 : Int) (n20 : Int) (n21 : Int) (b22 : Bool), v17 = (.tuple #[.agg #[.int .u8 n18, .int .u32 n19, .int .u32 n20, .int .u32 n21], .bool b22]) ∧
    R (.tuple #[.agg #[.int .u8 n18, .int .u32 n19, .int .u32 n20, .int .u32 n21], .bool b22]) h16))
    (FnH Tryd.prog N_node_Get #[.string s8] h6 fun v24 h23 => ∃ (n25 : Int) (n26 : Int) (n27 : Int) (n28 : Int) (b29 : Bool), v24 = (.tuple #[.agg #[.int .u8 n25, .int .u32 n26, .int .u32 n27, .int .u32 n28], .bool b29]) ∧
    R (.tuple #[.agg #[.int .u8 n25, .int .u32 n26, .int .u32 n27, .int .u32 n28], .bool b29]) h23)
theorem F_walk_Load.calls (v_1 : Option Addr) (ino_2 : Int) (h : Hp) (R : Value → Hp → Prop) (H : F_walk_Load v_1 ino_2 h R) : FnH Tryd.prog N_walk_Load #[.pointer v_1, .int .u32 ino_2] h R :=
  vcFn_calls [(4, 4)] Tryd.func34 .none [.pointer v_1, .int .u32 ino_2] (Eq.mp (by unfold F_walk_Load; kernel_rfl) H)
def F_view_all (t_1 : Option Addr) (h : Hp) (R : Value → Hp → Prop) : Prop :=
    FnH Tryd.prog N_tree_Tree_Len #[.pointer t_1] h fun v3 h2 => ∃ (n4 : Int), v3 = (.int .i64 n4) ∧ ∃ Iv8 : Nat → Option Addr → Nat → Nat → Int → Hp → Prop, (∃ i9, Iv8 i9 none 0 0 0 h2) ∧
    ∀ (i9 : Nat) (out5 : Option Addr) (out5l out5c : Nat) (n6 : Int) (h7 : Hp), Iv8 i9 out5 out5l out5c n6 h7 → (bsplit (decide (n6 < n4))
    (FnH Tryd.prog N_tree_Tree_At #[.pointer t_1, .int .i64 n6] h7 fun v12 h11 => ∃ (s13 : ByteArray) (s14 : ByteArray) (b15 : Bool) (b16 : Bool), v12 = (.tuple #[.agg #[.string s13, .string s14, .bool b15], .bool b16]) ∧
    HNew h11 (.cells #[.string s13, .string s14, .bool b15] T_api_Pair) fun b17 h18 => HApp (tyOf T_api_Pair) T_api_Pair h18 out5 out5l out5c (.slice (some (⟨b17, 0, none⟩)) 1 1) fun a20 a20l a20c h19 => I64 (n6 + 1) ∧
    ∃ k10, k10 < i9 ∧ Iv8 k10 a20 a20l a20c (n6 + 1) h19)
    (R (.slice out5 out5l out5c) h7))
theorem F_view_all.calls (t_1 : Option Addr) (h : Hp) (R : Value → Hp → Prop) (H : F_view_all t_1 h R) : FnH Tryd.prog N_view_all #[.pointer t_1] h R :=
  vcFn_calls [(5, 5)] Tryd.func35 (.seq .none (.seq .none (.seq (.seq .none (.block (.loop ⟨[0, 8], [], [(3, false, [.slice]), (9, false, [.int .i64])], []⟩ .none))) .none))) [.pointer t_1] (Eq.mp (by unfold F_view_all; kernel_rfl) H)
def F_flintref09_of (letter_1 : Int) (ino_2 : Int) (h : Hp) (R : Value → Hp → Prop) : Prop :=
    HNew h (.cells #[.int .u8 letter_1] T_uint8) fun b3 h4 => FnH Tryd.prog N_flintref03_Put #[.slice (some (⟨b3, 0, none⟩)) 1 1, .int .i64 4, .int .u64 (IntKind.u64.wrap ino_2)] h4 fun v6 h5 =>
    ∃ (a7 : Option Addr) (a7l a7c : Nat), v6 = (.slice a7 a7l a7c) ∧ ∃ s8 : ByteArray, Bytes h5 a7 a7l s8 ∧ R (.string s8) h5
theorem F_flintref09_of.calls (letter_1 : Int) (ino_2 : Int) (h : Hp) (R : Value → Hp → Prop) (H : F_flintref09_of letter_1 ino_2 h R) : FnH Tryd.prog N_flintref09_of #[.int .u8 letter_1, .int .u32 ino_2] h R :=
  vcFn_calls [(99999, 99999)] Tryd.func36 .none [.int .u8 letter_1, .int .u32 ino_2] (Eq.mp (by unfold F_flintref09_of; kernel_rfl) H)
def F_keys_Entry (dir_1 : Int) (name_2 : ByteArray) (h : Hp) (R : Value → Hp → Prop) : Prop :=
    bsplit (decide ((name_2.size : Int) > 32))
    (R (.string E0) h)
    (FnH Tryd.prog N_keys_of #[.int .u8 69, .int .u32 dir_1] h fun v4 h3 => ∃ (a5 : Option Addr) (a5l a5c : Nat), v4 = (.slice a5 a5l a5c) ∧ ∃ s6 : ByteArray, Bytes h3 a5 a5l s6 ∧ s6.size + name_2.size ≤ 9223372036854775807 ∧
    R (.string (s6 ++ name_2)) h3)
theorem F_keys_Entry.calls (dir_1 : Int) (name_2 : ByteArray) (h : Hp) (R : Value → Hp → Prop) (H : F_keys_Entry dir_1 name_2 h R) : FnH Tryd.prog N_keys_Entry #[.int .u32 dir_1, .string name_2] h R :=
  vcFn_calls [(99999, 99999)] Tryd.func37 .none [.int .u32 dir_1, .string name_2] (Eq.mp (by unfold F_keys_Entry; kernel_rfl) H)
def F_pack_Put (b_1 : Option Addr) (b_1l b_1c : Nat) (n_2 : Int) (x_3 : Int) (h : Hp) (R : Value → Hp → Prop) : Prop :=
    FnH Tryd.prog N_pack_wide #[.int .i64 n_2] h fun v5 h4 => ∃ (n6 : Int), v5 = (.int .i64 n6) ∧ FnH Tryd.prog N_pack_own #[.slice b_1 b_1l b_1c, .int .i64 n6] h4 fun v8 h7 =>
    ∃ (a9 : Option Addr) (a9l a9c : Nat), v8 = (.slice a9 a9l a9c) ∧ ∃ Iv12 : Nat → Int → Hp → Prop, (∃ i13, Iv12 i13 0 h7) ∧ ∀ (i13 : Nat) (n10 : Int) (h11 : Hp), Iv12 i13 n10 h11 → (bsplit (decide (n10 < n6))
    (I64 (((a9l : Nat) : Int) - 1) ∧ I64 ((((a9l : Nat) : Int) - 1) - n10) ∧ I64 (8 * n10) ∧ 0 ≤ (8 * n10) ∧ 0 ≤ ((((a9l : Nat) : Int) - 1) - n10) ∧ ((((a9l : Nat) : Int) - 1) - n10) < (a9l : Nat) ∧ ptrM a9 fun q15 =>
    HSt h11 (Addr.add q15 ((Int.toNat ((((a9l : Nat) : Int) - 1) - n10)) * 1)) [.int .u8 (IntKind.u8.wrap (Int.fdiv x_3 (2 ^ (min (Int.toNat (8 * n10)) 64))))] fun h16 => I64 (n10 + 1) ∧ ∃ k14, k14 < i13 ∧ Iv12 k14 (n10 + 1) h16)
    (R (.slice a9 a9l a9c) h11))
theorem F_pack_Put.calls (b_1 : Option Addr) (b_1l b_1c : Nat) (n_2 : Int) (x_3 : Int) (h : Hp) (R : Value → Hp → Prop) (H : F_pack_Put b_1 b_1l b_1c n_2 x_3 h R) : FnH Tryd.prog N_pack_Put #[.slice b_1 b_1l b_1c, .int .i64 n_2, .int .u64 x_3] h R :=
  vcFn_calls [(99999, 99999)] Tryd.func38 (.seq .none (.seq .none (.seq .none (.seq (.seq .none (.block (.loop ⟨[2, 7, 14], [], [(15, false, [.int .i64])], []⟩ .none))) .none)))) [.slice b_1 b_1l b_1c, .int .i64 n_2, .int .u64 x_3] (Eq.mp (by unfold F_pack_Put; kernel_rfl) H)
def F_view_View_Get (v_1 : Option Addr) (key_2 : ByteArray) (h : Hp) (R : Value → Hp → Prop) : Prop :=
    bsplit v_1.isNone
    (R (.tuple #[.string E0, .bool false]) h)
    (ptrM v_1 fun q3 => ∃ (p4 : Option Addr), At h (Addr.add q3 3) [.pointer p4] ∧ FnH Tryd.prog N_tree_Tree_Set #[.pointer p4, .string key_2, .string E0] h fun v6 h5 => ∃ (p7 : Option Addr), v6 = (.pointer p7) ∧ ptrM v_1 fun q8 =>
    HSt h5 (Addr.add q8 3) [.pointer p7] fun h9 => ptrM v_1 fun q10 => ∃ (p11 : Option Addr), At h9 (Addr.add q10 1) [.pointer p11] ∧ FnH Tryd.prog N_tree_Tree_Get #[.pointer p11, .string key_2] h9 fun v13 h12 =>
    ∃ (s14 : ByteArray) (b15 : Bool), v13 = (.tuple #[.string s14, .bool b15]) ∧ R (.tuple #[.string s14, .bool b15]) h12)
theorem F_view_View_Get.calls (v_1 : Option Addr) (key_2 : ByteArray) (h : Hp) (R : Value → Hp → Prop) (H : F_view_View_Get v_1 key_2 h R) : FnH Tryd.prog N_view_View_Get #[.pointer v_1, .string key_2] h R :=
  vcFn_calls [(99999, 99999)] Tryd.func39 .none [.pointer v_1, .string key_2] (Eq.mp (by unfold F_view_View_Get; kernel_rfl) H)
def F_pack_Get (b_1 : Option Addr) (b_1l b_1c : Nat) (at_2 : Int) (n_3 : Int) (h : Hp) (R : Value → Hp → Prop) : Prop :=
    FnH Tryd.prog N_pack_wide #[.int .i64 n_3] h fun v5 h4 => ∃ (n6 : Int), v5 = (.int .i64 n6) ∧ bsplit (decide (at_2 < 0))
    (R (.tuple #[.int .u64 0, .int .i64 0, .int .i64 1]) h4)
    (bsplit (decide (at_2 > ((b_1l : Nat) : Int)))
    (R (.tuple #[.int .u64 0, .int .i64 0, .int .i64 1]) h4)
    (I64 (((b_1l : Nat) : Int) - at_2) ∧ bsplit (decide ((((b_1l : Nat) : Int) - at_2) < n6))
    (R (.tuple #[.int .u64 0, .int .i64 0, .int .i64 3]) h4)
    (I64 (at_2 + n6) ∧ 0 ≤ at_2 ∧ at_2 ≤ (at_2 + n6) ∧ (at_2 + n6) ≤ ((b_1c : Nat) : Int) ∧ ∃ Iv10 : Nat → Int → Int → Hp → Prop, (∃ i11, Iv10 i11 0 0 h4) ∧ ∀ (i11 : Nat) (x7 : Int) (n8 : Int) (h9 : Hp), Iv10 i11 x7 n8 h9 →
    (bsplit (decide (n8 < ((Int.toNat (at_2 + n6 - at_2) : Nat) : Int)))
    (0 ≤ n8 ∧ n8 < (Int.toNat (at_2 + n6 - at_2) : Nat) ∧ ptrM (subSl b_1 at_2 b_1c 1) fun q13 => ∃ (n14 : Int), At h9 (Addr.add q13 ((Int.toNat n8) * 1)) [.int .u8 n14] ∧ 0 ≤ (8 : Int) ∧ I64 (n8 + 1) ∧ ∃ k12, k12 < i11 ∧
    Iv10 k12 (bitsV .or .u64 (IntKind.u64.wrap (x7 * 2 ^ (min (Int.toNat 8) 64))) (IntKind.u64.wrap n14)) (n8 + 1) h9)
    (I64 (at_2 + n6) ∧ R (.tuple #[.int .u64 x7, .int .i64 (at_2 + n6), .int .i64 0]) h9)))))
theorem F_pack_Get.calls (b_1 : Option Addr) (b_1l b_1c : Nat) (at_2 : Int) (n_3 : Int) (h : Hp) (R : Value → Hp → Prop) (H : F_pack_Get b_1 b_1l b_1c at_2 n_3 h R) : FnH Tryd.prog N_pack_Get #[.slice b_1 b_1l b_1c, .int .i64 at_2, .int .i64 n_3] h R :=
  vcFn_calls [(99999, 99999)] Tryd.func40 (.seq .none (.seq .none (.seq .none (.seq .none (.seq (.seq .none (.block (.loop ⟨[1, 2, 35, 36], [], [(9, false, [.int .u64]), (37, false, [.int .i64])], []⟩ .none))) .none))))) [.slice b_1 b_1l b_1c, .int .i64 at_2, .int .i64 n_3] (Eq.mp (by unfold F_pack_Get; kernel_rfl) H)
def F_view_View_Cut (v_1 : Option Addr) (key_2 : ByteArray) (h : Hp) (R : Value → Hp → Prop) : Prop :=
    FnH Tryd.prog N_view_View_room #[.pointer v_1, .string key_2] h fun v4 h3 => ∃ (b5 : Bool), v4 = (.bool b5) ∧ bsplit (!b5)
    (R (.bool false) h3)
    (∀ J7 : Hp → Prop, (∀ (h6 : Hp), (ptrM v_1 fun q8 => ∃ (p9 : Option Addr), At h6 (Addr.add q8 1) [.pointer p9] ∧ FnH Tryd.prog N_tree_Tree_Cut #[.pointer p9, .string key_2] h6 fun v11 h10 =>
    ∃ (p12 : Option Addr), v11 = (.pointer p12) ∧ ptrM v_1 fun q13 => HSt h10 (Addr.add q13 1) [.pointer p12] fun h14 => R (.bool true) h14) → J7 h6) → ptrM v_1 fun q15 =>
    ∃ (p16 : Option Addr), At h3 (Addr.add q15 0) [.pointer p16] ∧ FnH Tryd.prog N_tree_Tree_Get #[.pointer p16, .string key_2] h3 fun v18 h17 => ∃ (s19 : ByteArray) (b20 : Bool), v18 = (.tuple #[.string s19, .bool b20]) ∧ bsplit b20
    (ptrM v_1 fun q21 => ∃ (p22 : Option Addr), At h17 (Addr.add q21 2) [.pointer p22] ∧ FnH Tryd.prog N_tree_Tree_Set #[.pointer p22, .string key_2, .string E0] h17 fun v24 h23 => ∃ (p25 : Option Addr), v24 = (.pointer p25) ∧
    ptrM v_1 fun q26 => HSt h23 (Addr.add q26 2) [.pointer p25] fun h27 => J7 h27)
    (ptrM v_1 fun q28 => ∃ (p29 : Option Addr), At h17 (Addr.add q28 2) [.pointer p29] ∧ FnH Tryd.prog N_tree_Tree_Cut #[.pointer p29, .string key_2] h17 fun v31 h30 => ∃ (p32 : Option Addr), v31 = (.pointer p32) ∧ ptrM v_1 fun q33 =>
    HSt h30 (Addr.add q33 2) [.pointer p32] fun h34 => J7 h34))
theorem F_view_View_Cut.calls (v_1 : Option Addr) (key_2 : ByteArray) (h : Hp) (R : Value → Hp → Prop) (H : F_view_View_Cut v_1 key_2 h R) : FnH Tryd.prog N_view_View_Cut #[.pointer v_1, .string key_2] h R :=
  vcFn_calls [(99999, 99999)] Tryd.func41 (.seq .none (.seq .none (.join ⟨[0, 1], [], [], []⟩ .none .none))) [.pointer v_1, .string key_2] (Eq.mp (by unfold F_view_View_Cut; kernel_rfl) H)
def F_keys_Entries (dir_1 : Int) (h : Hp) (R : Value → Hp → Prop) : Prop :=
    FnH Tryd.prog N_keys_of #[.int .u8 69, .int .u32 dir_1] h fun v3 h2 => ∃ (a4 : Option Addr) (a4l a4c : Nat), v3 = (.slice a4 a4l a4c) ∧ ∃ s5 : ByteArray, Bytes h2 a4 a4l s5 ∧
    FnH Tryd.prog N_keys_behind #[.string s5] h2 fun v7 h6 => ∃ (s8 : ByteArray), v7 = (.string s8) ∧ R (.tuple #[.string s5, .string s8]) h6
theorem F_keys_Entries.calls (dir_1 : Int) (h : Hp) (R : Value → Hp → Prop) (H : F_keys_Entries dir_1 h R) : FnH Tryd.prog N_keys_Entries #[.int .u32 dir_1] h R :=
  vcFn_calls [(99999, 99999)] Tryd.func42 .none [.int .u32 dir_1] (Eq.mp (by unfold F_keys_Entries; kernel_rfl) H)
def F_view_View_Range (v_1 : Option Addr) (from_2 : ByteArray) (to_3 : ByteArray) (h : Hp) (R : Value → Hp → Prop) : Prop :=
    bsplit v_1.isNone
    (R (.slice none 0 0) h)
    (bsplit (!strLt from_2 to_3)
    (R (.slice none 0 0) h)
    (ptrM v_1 fun q4 => ∃ (a5 : Option Addr) (a5l a5c : Nat), At h (Addr.add q4 4) [.slice a5 a5l a5c] ∧ FnH Tryd.prog N_slices_Contains_2_string_2_string #[.slice a5 a5l a5c, .agg #[.string from_2, .string to_3]] h fun v7 h6 =>
    ∃ (b8 : Bool), v7 = (.bool b8) ∧ bsplit (!b8)
    (∃ S9 : Hp → Prop, S9 h6 ∧ ptrM v_1 fun q10 => ∃ (a11 : Option Addr) (a11l a11c : Nat), (∀ g, S9 g → At g (Addr.add q10 4) [.slice a11 a11l a11c]) ∧ HNew h6 (.cells #[.string from_2, .string to_3] T_a2_string) fun b12 h13 =>
    S9 h13 ∧ HApp (tyOf T_a2_string) T_a2_string h13 a11 a11l a11c (.slice (some (⟨b12, 0, none⟩)) 1 1) fun a15 a15l a15c h14 => S9 h14 ∧ ptrM v_1 fun q16 => HSt h14 (Addr.add q16 4) [.slice a15 a15l a15c] fun h17 =>
    ptrM v_1 fun q18 => ∃ (p19 : Option Addr), At h17 (Addr.add q18 1) [.pointer p19] ∧ FnH Tryd.prog N_tree_Tree_Range #[.pointer p19, .string from_2, .string to_3] h17 fun v21 h20 =>
    ∃ (a22 : Option Addr) (a22l a22c : Nat), v21 = (.slice a22 a22l a22c) ∧ R (.slice a22 a22l a22c) h20)
    (ptrM v_1 fun q23 => ∃ (p24 : Option Addr), At h6 (Addr.add q23 1) [.pointer p24] ∧ FnH Tryd.prog N_tree_Tree_Range #[.pointer p24, .string from_2, .string to_3] h6 fun v26 h25 =>
    ∃ (a27 : Option Addr) (a27l a27c : Nat), v26 = (.slice a27 a27l a27c) ∧ R (.slice a27 a27l a27c) h25)))
theorem F_view_View_Range.calls (v_1 : Option Addr) (from_2 : ByteArray) (to_3 : ByteArray) (h : Hp) (R : Value → Hp → Prop) (H : F_view_View_Range v_1 from_2 to_3 h R) : FnH Tryd.prog N_view_View_Range #[.pointer v_1, .string from_2, .string to_3] h R :=
  vcFn_calls [(7, 7)] Tryd.func43 .none [.pointer v_1, .string from_2, .string to_3] (Eq.mp (by unfold F_view_View_Range; kernel_rfl) H)
def F_flintref09_Split (key_1 : ByteArray) (h : Hp) (R : Value → Hp → Prop) : Prop :=
    bsplit (decide ((key_1.size : Int) < 5))
    (R (.tuple #[.int .u8 0, .int .u32 0, .string E0, .int .i64 0]) h)
    (∀ cap2 : Nat, key_1.size ≤ cap2 → HNew h (.cells ((key_1.data.toList.map fun b => Value.int .u8 b.toNat) ++ List.replicate (cap2 - key_1.size) (Value.int .u8 0)).toArray T_uint8 (cap2, cap2 + 1)) fun b3 h4 =>
    FnH Tryd.prog N_flintref03_Get #[.slice (some (⟨b3, 0, none⟩)) key_1.size cap2, .int .i64 1, .int .i64 4] h4 fun v6 h5 => ∃ (n7 : Int) (n8 : Int) (n9 : Int), v6 = (.tuple #[.int .u64 n7, .int .i64 n8, .int .i64 n9]) ∧
    0 ≤ (5 : Int) ∧ (5 : Int) ≤ (key_1.size : Int) ∧ (key_1.size : Int) ≤ (key_1.size : Int) ∧ 0 ≤ (0 : Int) ∧ (0 : Int) < (key_1.size : Nat) ∧ bsplit ((byteAt key_1 0) == 73)
    (bsplit (((ByteArray.extract key_1 (Int.toNat 5) (Int.toNat (key_1.size : Int))).size : Int) == 0)
    (R (.tuple #[.int .u8 73, .int .u32 (IntKind.u32.wrap n7), .string E0, .int .i64 0]) h5)
    (R (.tuple #[.int .u8 0, .int .u32 0, .string E0, .int .i64 0]) h5))
    (bsplit ((byteAt key_1 0) == 69)
    (bsplit (decide (((ByteArray.extract key_1 (Int.toNat 5) (Int.toNat (key_1.size : Int))).size : Int) > 0))
    (bsplit (decide (((ByteArray.extract key_1 (Int.toNat 5) (Int.toNat (key_1.size : Int))).size : Int) ≤ 32))
    (R (.tuple #[.int .u8 69, .int .u32 (IntKind.u32.wrap n7), .string (ByteArray.extract key_1 (Int.toNat 5) (Int.toNat (key_1.size : Int))), .int .i64 0]) h5)
    (R (.tuple #[.int .u8 0, .int .u32 0, .string E0, .int .i64 0]) h5))
    (R (.tuple #[.int .u8 0, .int .u32 0, .string E0, .int .i64 0]) h5))
    (bsplit ((byteAt key_1 0) == 68)
    (bsplit (((ByteArray.extract key_1 (Int.toNat 5) (Int.toNat (key_1.size : Int))).size : Int) == 2)
    (0 ≤ (0 : Int) ∧ (0 : Int) < ((ByteArray.extract key_1 (Int.toNat 5) (Int.toNat (key_1.size : Int))).size : Nat) ∧ I64 (256 * (IntKind.i64.wrap (byteAt (ByteArray.extract key_1 (Int.toNat 5) (Int.toNat (key_1.size : Int))) 0))) ∧
    0 ≤ (1 : Int) ∧ (1 : Int) < ((ByteArray.extract key_1 (Int.toNat 5) (Int.toNat (key_1.size : Int))).size : Nat) ∧
    I64 ((256 * (IntKind.i64.wrap (byteAt (ByteArray.extract key_1 (Int.toNat 5) (Int.toNat (key_1.size : Int))) 0))) + (IntKind.i64.wrap (byteAt (ByteArray.extract key_1 (Int.toNat 5) (Int.toNat (key_1.size : Int))) 1))) ∧
    R (.tuple #[.int .u8 68, .int .u32 (IntKind.u32.wrap n7), .string E0, .int .i64 ((256 * (IntKind.i64.wrap (byteAt (ByteArray.extract key_1 (Int.toNat 5) (Int.toNat (key_1.size : Int))) 0))) + (IntKind.i64.wrap (byteAt (ByteArray.extract key_1 (Int.toNat 5) (Int.toNat (key_1.size : Int))) 1)))]) h5)
    (R (.tuple #[.int .u8 0, .int .u32 0, .string E0, .int .i64 0]) h5))
    (R (.tuple #[.int .u8 0, .int .u32 0, .string E0, .int .i64 0]) h5))))
theorem F_flintref09_Split.calls (key_1 : ByteArray) (h : Hp) (R : Value → Hp → Prop) (H : F_flintref09_Split key_1 h R) : FnH Tryd.prog N_flintref09_Split #[.string key_1] h R :=
  vcFn_calls [(99999, 99999)] Tryd.func44 .none [.string key_1] (Eq.mp (by unfold F_flintref09_Split; kernel_rfl) H)
def F_ark_Count (b_1 : Option Addr) (b_1l b_1c : Nat) (h : Hp) (R : Value → Hp → Prop) : Prop :=
    FnH Tryd.prog N_ark_load #[.slice b_1 b_1l b_1c] h fun v3 h2 => ∃ (a4 : Option Addr) (a4l a4c : Nat) (n5 : Int) (n6 : Int), v3 = (.tuple #[.slice a4 a4l a4c, .int .i64 n5, .int .i64 n6]) ∧ R (.int .i64 n5) h2
theorem F_ark_Count.calls (b_1 : Option Addr) (b_1l b_1c : Nat) (h : Hp) (R : Value → Hp → Prop) (H : F_ark_Count b_1 b_1l b_1c h R) : FnH Tryd.prog N_ark_Count #[.slice b_1 b_1l b_1c] h R :=
  vcFn_calls [(99999, 99999)] Tryd.func45 .none [.slice b_1 b_1l b_1c] (Eq.mp (by unfold F_ark_Count; kernel_rfl) H)
def F_tree_Tree_join (t_1 : Option Addr) (left_2 : Option Addr) (right_3 : Option Addr) (h : Hp) (R : Value → Hp → Prop) : Prop :=
    FnH Tryd.prog N_tree_Tree_with #[.pointer t_1, .pointer left_2, .pointer right_3] h fun v5 h4 => ∃ (p6 : Option Addr), v5 = (.pointer p6) ∧ FnH Tryd.prog N_tree_Tree_lean #[.pointer p6] h4 fun v8 h7 =>
    ∃ (n9 : Int), v8 = (.int .i64 n9) ∧ bsplit (decide (n9 > 1))
    (FnH Tryd.prog N_tree_Tree_lean #[.pointer left_2] h7 fun v11 h10 => ∃ (n12 : Int), v11 = (.int .i64 n12) ∧ bsplit (decide (n12 < 0))
    (FnH Tryd.prog N_tree_Tree_turnLeft #[.pointer left_2] h10 fun v14 h13 => ∃ (p15 : Option Addr), v14 = (.pointer p15) ∧ FnH Tryd.prog N_tree_Tree_with #[.pointer t_1, .pointer p15, .pointer right_3] h13 fun v17 h16 =>
    ∃ (p18 : Option Addr), v17 = (.pointer p18) ∧ FnH Tryd.prog N_tree_Tree_turnRight #[.pointer p18] h16 fun v20 h19 => ∃ (p21 : Option Addr), v20 = (.pointer p21) ∧ R (.pointer p21) h19)
    (FnH Tryd.prog N_tree_Tree_turnRight #[.pointer p6] h10 fun v23 h22 => ∃ (p24 : Option Addr), v23 = (.pointer p24) ∧ R (.pointer p24) h22))
    (bsplit (decide (n9 < (-1)))
    (FnH Tryd.prog N_tree_Tree_lean #[.pointer right_3] h7 fun v26 h25 => ∃ (n27 : Int), v26 = (.int .i64 n27) ∧ bsplit (decide (n27 > 0))
    (FnH Tryd.prog N_tree_Tree_turnRight #[.pointer right_3] h25 fun v29 h28 => ∃ (p30 : Option Addr), v29 = (.pointer p30) ∧ FnH Tryd.prog N_tree_Tree_with #[.pointer t_1, .pointer left_2, .pointer p30] h28 fun v32 h31 =>
    ∃ (p33 : Option Addr), v32 = (.pointer p33) ∧ FnH Tryd.prog N_tree_Tree_turnLeft #[.pointer p33] h31 fun v35 h34 => ∃ (p36 : Option Addr), v35 = (.pointer p36) ∧ R (.pointer p36) h34)
    (FnH Tryd.prog N_tree_Tree_turnLeft #[.pointer p6] h25 fun v38 h37 => ∃ (p39 : Option Addr), v38 = (.pointer p39) ∧ R (.pointer p39) h37))
    (R (.pointer p6) h7))
theorem F_tree_Tree_join.calls (t_1 : Option Addr) (left_2 : Option Addr) (right_3 : Option Addr) (h : Hp) (R : Value → Hp → Prop) (H : F_tree_Tree_join t_1 left_2 right_3 h R) : FnH Tryd.prog N_tree_Tree_join #[.pointer t_1, .pointer left_2, .pointer right_3] h R :=
  vcFn_calls [(99999, 99999)] Tryd.func46 .none [.pointer t_1, .pointer left_2, .pointer right_3] (Eq.mp (by unfold F_tree_Tree_join; kernel_rfl) H)
def F_ark_saver_dir (s_1 : Option Addr) (path_2 : ByteArray) (ino_3 : Int) (deep_4 : Int) (h : Hp) (R : Value → Hp → Prop) : Prop :=
    bsplit (deep_4 == 16)
    (R (.tuple #[]) h)
    (ptrM s_1 fun q5 => ∃ (p6 : Option Addr), At h (Addr.add q5 0) [.pointer p6] ∧ FnH Tryd.prog N_walk_List #[.pointer p6, .int .u32 ino_3] h fun v8 h7 => ∃ (a9 : Option Addr) (a9l a9c : Nat), v8 = (.slice a9 a9l a9c) ∧
    ∃ Iv12 : Nat → Int → Hp → Prop, (∃ i13, Iv12 i13 0 h7) ∧ ∀ (i13 : Nat) (n10 : Int) (h11 : Hp), Iv12 i13 n10 h11 → (bsplit (decide (n10 < ((a9l : Nat) : Int)))
    (0 ≤ n10 ∧ n10 < (a9l : Nat) ∧ ptrM a9 fun q15 => ∃ (s16 : ByteArray), At h11 (Addr.add q15 ((Int.toNat n10) * 1)) [.string s16] ∧ ptrM s_1 fun q17 => ∃ (p18 : Option Addr), At h11 (Addr.add q17 0) [.pointer p18] ∧
    FnH Tryd.prog N_walk_Child #[.pointer p18, .int .u32 ino_3, .string s16] h11 fun v20 h19 => ∃ (n21 : Int) (b22 : Bool), v20 = (.tuple #[.int .u32 n21, .bool b22]) ∧ ptrM s_1 fun q23 =>
    ∃ (p24 : Option Addr), At h19 (Addr.add q23 0) [.pointer p24] ∧ FnH Tryd.prog N_walk_Load #[.pointer p24, .int .u32 n21] h19 fun v26 h25 =>
    ∃ (n27 : Int) (n28 : Int) (n29 : Int) (n30 : Int) (b31 : Bool), v26 = (.tuple #[.agg #[.int .u8 n27, .int .u32 n28, .int .u32 n29, .int .u32 n30], .bool b31]) ∧ bsplit b22
    (bsplit b31
    (path_2.size + (ByteArray.mk #[47]).size ≤ 9223372036854775807 ∧ (path_2 ++ (ByteArray.mk #[47])).size + s16.size ≤ 9223372036854775807 ∧ I64 (deep_4 + 1) ∧
    FnH Tryd.prog N_ark_saver_entry #[.pointer s_1, .string ((path_2 ++ (ByteArray.mk #[47])) ++ s16), .int .u32 n21, .agg #[.int .u8 n27, .int .u32 n28, .int .u32 n29, .int .u32 n30], .int .i64 (deep_4 + 1)] h25 fun v33 h32 =>
    v33 = (.tuple #[]) ∧ I64 (n10 + 1) ∧ ∃ k14, k14 < i13 ∧ Iv12 k14 (n10 + 1) h32)
    (I64 (n10 + 1) ∧ ∃ k14, k14 < i13 ∧ Iv12 k14 (n10 + 1) h25))
    (I64 (n10 + 1) ∧ ∃ k14, k14 < i13 ∧ Iv12 k14 (n10 + 1) h25))
    (R (.tuple #[]) h11)))
theorem F_ark_saver_dir.calls (s_1 : Option Addr) (path_2 : ByteArray) (ino_3 : Int) (deep_4 : Int) (h : Hp) (R : Value → Hp → Prop) (H : F_ark_saver_dir s_1 path_2 ino_3 deep_4 h R) : FnH Tryd.prog N_ark_saver_dir #[.pointer s_1, .string path_2, .int .u32 ino_3, .int .i64 deep_4] h R :=
  vcFn_calls [(12, 12)] Tryd.func47 (.seq .none (.seq .none (.block (.loop ⟨[0, 1, 2, 3, 21, 22], [], [(23, false, [.int .i64])], []⟩ .none)))) [.pointer s_1, .string path_2, .int .u32 ino_3, .int .i64 deep_4] (Eq.mp (by unfold F_ark_saver_dir; kernel_rfl) H)
def F_ark_load (b_1 : Option Addr) (b_1l b_1c : Nat) (h : Hp) (R : Value → Hp → Prop) : Prop :=
    bsplit (decide (((b_1l : Nat) : Int) > 1048576))
    (R (.tuple #[.slice none 0 0, .int .i64 0, .int .i64 4]) h)
    (HNew h (.cells #[.slice b_1 b_1l b_1c, .int .i64 0, .int .i64 0, .slice none 0 0] T_ark_loader) fun b2 h3 => ∃ Iv6 : Nat → Int → Hp → Prop, (∃ i7, Iv6 i7 0 h3) ∧ ∀ (i7 : Nat) (n4 : Int) (h5 : Hp), Iv6 i7 n4 h5 →
    (∃ (n9 : Int), At h5 (Addr.add (⟨b2, 0, none⟩) 1) [.int .i64 n9] ∧ bsplit (decide (n9 < ((b_1l : Nat) : Int)))
    (FnH Tryd.prog N_ark_loader_part #[.pointer (some (⟨b2, 0, none⟩))] h5 fun v11 h10 => v11 = (.tuple #[]) ∧ ∃ (n12 : Int), At h10 (Addr.add (⟨b2, 0, none⟩) 2) [.int .i64 n12] ∧ bsplit (n12 != 0)
    (∃ (n13 : Int), At h10 (Addr.add (⟨b2, 0, none⟩) 2) [.int .i64 n13] ∧ R (.tuple #[.slice none 0 0, .int .i64 0, .int .i64 n13]) h10)
    (I64 (n4 + 1) ∧ ∃ k8, k8 < i7 ∧ Iv6 k8 (n4 + 1) h10))
    (∃ (a14 : Option Addr) (a14l a14c : Nat), At h5 (Addr.add (⟨b2, 0, none⟩) 3) [.slice a14 a14l a14c] ∧ R (.tuple #[.slice a14 a14l a14c, .int .i64 n4, .int .i64 0]) h5)))
theorem F_ark_load.calls (b_1 : Option Addr) (b_1l b_1c : Nat) (h : Hp) (R : Value → Hp → Prop) (H : F_ark_load b_1 b_1l b_1c h R) : FnH Tryd.prog N_ark_load #[.slice b_1 b_1l b_1c] h R :=
  vcFn_calls [(99999, 99999)] Tryd.func48 (.seq .none (.seq .none (.seq .none (.seq .none (.seq (.block (.loop ⟨[0, 5], [], [(6, false, [.int .i64])], []⟩ .none)) .none))))) [.slice b_1 b_1l b_1c] (Eq.mp (by unfold F_ark_load; kernel_rfl) H)
def F_keys_Inode (ino_1 : Int) (h : Hp) (R : Value → Hp → Prop) : Prop :=
    FnH Tryd.prog N_keys_of #[.int .u8 73, .int .u32 ino_1] h fun v3 h2 => ∃ (a4 : Option Addr) (a4l a4c : Nat), v3 = (.slice a4 a4l a4c) ∧ ∃ s5 : ByteArray, Bytes h2 a4 a4l s5 ∧ R (.string s5) h2
theorem F_keys_Inode.calls (ino_1 : Int) (h : Hp) (R : Value → Hp → Prop) (H : F_keys_Inode ino_1 h R) : FnH Tryd.prog N_keys_Inode #[.int .u32 ino_1] h R :=
  vcFn_calls [(99999, 99999)] Tryd.func49 .none [.int .u32 ino_1] (Eq.mp (by unfold F_keys_Inode; kernel_rfl) H)
def F_node_Put (x_1 : Int) (x_2 : Int) (x_3 : Int) (x_4 : Int) (h : Hp) (R : Value → Hp → Prop) : Prop :=
    HNew h (.cells #[.int .u8 x_1] T_uint8) fun b5 h6 => ∃ Iv10 : Nat → Option Addr → Nat → Nat → Int → Hp → Prop, (∃ i11, Iv10 i11 (some (⟨b5, 0, none⟩)) 1 1 0 h6) ∧
    ∀ (i11 : Nat) (b7 : Option Addr) (b7l b7c : Nat) (n8 : Int) (h9 : Hp), Iv10 i11 b7 b7l b7c n8 h9 → (bsplit (decide (n8 < 3))
    (0 ≤ n8 ∧ n8 < (3 : Nat) ∧ ∃ (n13 : Int), ([.int .u32 x_2, .int .u32 x_3, .int .u32 x_4] : List Value)[Int.toNat n8]? = some (.int .u32 n13) ∧
    FnH Tryd.prog N_pack_Put #[.slice b7 b7l b7c, .int .i64 4, .int .u64 (IntKind.u64.wrap n13)] h9 fun v15 h14 => ∃ (a16 : Option Addr) (a16l a16c : Nat), v15 = (.slice a16 a16l a16c) ∧ I64 (n8 + 1) ∧ ∃ k12, k12 < i11 ∧
    Iv10 k12 a16 a16l a16c (n8 + 1) h14)
    (∃ s17 : ByteArray, Bytes h9 b7 b7l s17 ∧ R (.string s17) h9))
theorem F_node_Put.calls (x_1 : Int) (x_2 : Int) (x_3 : Int) (x_4 : Int) (h : Hp) (R : Value → Hp → Prop) (H : F_node_Put x_1 x_2 x_3 x_4 h R) : FnH Tryd.prog N_node_Put #[.agg #[.int .u8 x_1, .int .u32 x_2, .int .u32 x_3, .int .u32 x_4]] h R :=
  vcFn_calls [(1, 1), (6, 1), (9, 1), (11, 1), (13, 1)] Tryd.func50 (.seq .none (.seq .none (.seq (.seq .none (.block (.loop ⟨[15], [], [(3, false, [.slice]), (16, false, [.int .i64])], []⟩ .none))) .none))) [.agg #[.int .u8 x_1, .int .u32 x_2, .int .u32 x_3, .int .u32 x_4]] (Eq.mp (by unfold F_node_Put; kernel_rfl) H)
def F_flintref15_Put (x_1 : Int) (x_2 : Int) (x_3 : Int) (x_4 : Int) (h : Hp) (R : Value → Hp → Prop) : Prop :=
    HNew h (.cells #[.int .u8 x_1] T_uint8) fun b5 h6 => FnH Tryd.prog N_flintref03_Put #[.slice (some (⟨b5, 0, none⟩)) 1 1, .int .i64 4, .int .u64 (IntKind.u64.wrap x_2)] h6 fun v8 h7 =>
    ∃ (a9 : Option Addr) (a9l a9c : Nat), v8 = (.slice a9 a9l a9c) ∧ FnH Tryd.prog N_flintref03_Put #[.slice a9 a9l a9c, .int .i64 4, .int .u64 (IntKind.u64.wrap x_3)] h7 fun v11 h10 =>
    ∃ (a12 : Option Addr) (a12l a12c : Nat), v11 = (.slice a12 a12l a12c) ∧ FnH Tryd.prog N_flintref03_Put #[.slice a12 a12l a12c, .int .i64 4, .int .u64 (IntKind.u64.wrap x_4)] h10 fun v14 h13 =>
    ∃ (a15 : Option Addr) (a15l a15c : Nat), v14 = (.slice a15 a15l a15c) ∧ ∃ s16 : ByteArray, Bytes h13 a15 a15l s16 ∧ R (.string s16) h13
theorem F_flintref15_Put.calls (x_1 : Int) (x_2 : Int) (x_3 : Int) (x_4 : Int) (h : Hp) (R : Value → Hp → Prop) (H : F_flintref15_Put x_1 x_2 x_3 x_4 h R) : FnH Tryd.prog N_flintref15_Put #[.agg #[.int .u8 x_1, .int .u32 x_2, .int .u32 x_3, .int .u32 x_4]] h R :=
  vcFn_calls [(1, 1), (4, 1), (7, 1), (12, 1), (17, 1)] Tryd.func51 .none [.agg #[.int .u8 x_1, .int .u32 x_2, .int .u32 x_3, .int .u32 x_4]] (Eq.mp (by unfold F_flintref15_Put; kernel_rfl) H)
def F_flintref03_Put (b_1 : Option Addr) (b_1l b_1c : Nat) (n_2 : Int) (x_3 : Int) (h : Hp) (R : Value → Hp → Prop) : Prop :=
    HNew h (.cells #[] T_uint8) fun b4 h5 => HApp (tyOf T_uint8) T_uint8 h5 (some (⟨b4, 0, none⟩)) 0 0 (.slice b_1 b_1l b_1c) fun a7 a7l a7c h6 => HNew h6 (.cells #[] T_uint8) fun b8 h9 => ∃ Iv14 : Nat → Int → Option Addr → Nat →
    Nat → Int → Hp → Prop, (∃ i15, Iv14 i15 x_3 (some (⟨b8, 0, none⟩)) 0 0 0 h9) ∧
    ∀ (i15 : Nat) (x10 : Int) (digits11 : Option Addr) (digits11l digits11c : Nat) (i12 : Int) (h13 : Hp), Iv14 i15 x10 digits11 digits11l digits11c i12 h13 → (FnH Tryd.prog N_flintref03_wide #[.int .i64 n_2] h13 fun v18 h17 =>
    ∃ (n19 : Int), v18 = (.int .i64 n19) ∧ bsplit (decide (i12 < n19))
    ((256 : Int) ≠ 0 ∧ HNew h17 (.cells #[.int .u8 (IntKind.u8.wrap (Int.tmod x10 256))] T_uint8) fun b20 h21 =>
    HApp (tyOf T_uint8) T_uint8 h21 digits11 digits11l digits11c (.slice (some (⟨b20, 0, none⟩)) 1 1) fun a23 a23l a23c h22 => (256 : Int) ≠ 0 ∧ I64 (i12 + 1) ∧ ∃ k16, k16 < i15 ∧
    Iv14 k16 (IntKind.u64.wrap (Int.tdiv x10 256)) a23 a23l a23c (i12 + 1) h22)
    (I64 (((digits11l : Nat) : Int) - 1) ∧ ∃ Iv27 : Nat → Option Addr → Nat → Nat → Int → Hp → Prop, (∃ i28, Iv27 i28 a7 a7l a7c (((digits11l : Nat) : Int) - 1) h17) ∧
    ∀ (i28 : Nat) (out24 : Option Addr) (out24l out24c : Nat) (i25 : Int) (h26 : Hp), Iv27 i28 out24 out24l out24c i25 h26 → (bsplit (decide (i25 ≥ 0))
    (0 ≤ i25 ∧ i25 < (digits11l : Nat) ∧ ptrM digits11 fun q30 => ∃ (n31 : Int), At h26 (Addr.add q30 ((Int.toNat i25) * 1)) [.int .u8 n31] ∧ HNew h26 (.cells #[.int .u8 n31] T_uint8) fun b32 h33 =>
    HApp (tyOf T_uint8) T_uint8 h33 out24 out24l out24c (.slice (some (⟨b32, 0, none⟩)) 1 1) fun a35 a35l a35c h34 => I64 (i25 - 1) ∧ ∃ k29, k29 < i28 ∧ Iv27 k29 a35 a35l a35c (i25 - 1) h34)
    (R (.slice out24 out24l out24c) h26))))
theorem F_flintref03_Put.calls (b_1 : Option Addr) (b_1l b_1c : Nat) (n_2 : Int) (x_3 : Int) (h : Hp) (R : Value → Hp → Prop) (H : F_flintref03_Put b_1 b_1l b_1c n_2 x_3 h R) : FnH Tryd.prog N_flintref03_Put #[.slice b_1 b_1l b_1c, .int .i64 n_2, .int .u64 x_3] h R :=
  vcFn_calls [(99999, 99999)] Tryd.func52 (.seq .none (.seq .none (.seq .none (.seq .none (.seq (.seq .none (.block (.loop ⟨[1, 7], [], [(2, false, [.int .u64]), (8, false, [.slice]), (9, false, [.int .i64])], []⟩ .none))) (.seq (.seq .none (.block (.loop ⟨[8], [], [(7, false, [.slice]), (10, false, [.int .i64])], []⟩ .none))) .none)))))) [.slice b_1 b_1l b_1c, .int .i64 n_2, .int .u64 x_3] (Eq.mp (by unfold F_flintref03_Put; kernel_rfl) H)
def F_view_View_room (v_1 : Option Addr) (key_2 : ByteArray) (h : Hp) (R : Value → Hp → Prop) : Prop :=
    bsplit v_1.isNone
    (R (.bool false) h)
    (ptrM v_1 fun q3 => ∃ (p4 : Option Addr), At h (Addr.add q3 2) [.pointer p4] ∧ FnH Tryd.prog N_tree_Tree_Get #[.pointer p4, .string key_2] h fun v6 h5 => ∃ (s7 : ByteArray) (b8 : Bool), v6 = (.tuple #[.string s7, .bool b8]) ∧
    bsplit b8
    (R (.bool true) h5)
    (ptrM v_1 fun q9 => ∃ (p10 : Option Addr), At h5 (Addr.add q9 2) [.pointer p10] ∧ FnH Tryd.prog N_tree_Tree_Len #[.pointer p10] h5 fun v12 h11 => ∃ (n13 : Int), v12 = (.int .i64 n13) ∧ R (.bool (decide (n13 < 48))) h11))
theorem F_view_View_room.calls (v_1 : Option Addr) (key_2 : ByteArray) (h : Hp) (R : Value → Hp → Prop) (H : F_view_View_room v_1 key_2 h R) : FnH Tryd.prog N_view_View_room #[.pointer v_1, .string key_2] h R :=
  vcFn_calls [(99999, 99999)] Tryd.func53 .none [.pointer v_1, .string key_2] (Eq.mp (by unfold F_view_View_room; kernel_rfl) H)
def F_strings_Split (s_1 : ByteArray) (sep_2 : ByteArray) (h : Hp) (R : Value → Hp → Prop) : Prop :=
    FnH Tryd.prog N_strings_genSplit #[.string s_1, .string sep_2, .int .i64 0, .int .i64 (-1)] h fun v4 h3 => ∃ (a5 : Option Addr) (a5l a5c : Nat), v4 = (.slice a5 a5l a5c) ∧ R (.slice a5 a5l a5c) h3
theorem F_strings_Split.calls (s_1 : ByteArray) (sep_2 : ByteArray) (h : Hp) (R : Value → Hp → Prop) (H : F_strings_Split s_1 sep_2 h R) : FnH Tryd.prog N_strings_Split #[.string s_1, .string sep_2] h R :=
  vcFn_calls [(99999, 99999)] Tryd.func54 .none [.string s_1, .string sep_2] (Eq.mp (by unfold F_strings_Split; kernel_rfl) H)
def F_names_may (l_1 : Option Addr) (l_1l l_1c : Nat) (h : Hp) (R : Value → Hp → Prop) : Prop :=
    bsplit (decide (((l_1l : Nat) : Int) ≤ 16))
    (FnH Tryd.prog N_slices_ContainsFunc_string_string #[.slice l_1 l_1l l_1c, .func (.func N_names_may_1) #[] #[]] h fun v3 h2 => ∃ (b4 : Bool), v3 = (.bool b4) ∧ R (.bool (!b4)) h2)
    (R (.bool false) h)
theorem F_names_may.calls (l_1 : Option Addr) (l_1l l_1c : Nat) (h : Hp) (R : Value → Hp → Prop) (H : F_names_may l_1 l_1l l_1c h R) : FnH Tryd.prog N_names_may #[.slice l_1 l_1l l_1c] h R :=
  vcFn_calls [(99999, 99999)] Tryd.func55 .none [.slice l_1 l_1l l_1c] (Eq.mp (by unfold F_names_may; kernel_rfl) H)
def F_node_Root  (h : Hp) (R : Value → Hp → Prop) : Prop :=
    FnH Tryd.prog N_node_New #[.int .u8 2, .int .u32 1] h fun v2 h1 => ∃ (n3 : Int) (n4 : Int) (n5 : Int) (n6 : Int), v2 = (.agg #[.int .u8 n3, .int .u32 n4, .int .u32 n5, .int .u32 n6]) ∧
    R (.agg #[.int .u8 n3, .int .u32 n4, .int .u32 n5, .int .u32 n6]) h1
theorem F_node_Root.calls  (h : Hp) (R : Value → Hp → Prop) (H : F_node_Root  h R) : FnH Tryd.prog N_node_Root #[] h R :=
  vcFn_calls [(0, 0)] Tryd.func56 .none [] (Eq.mp (by unfold F_node_Root; kernel_rfl) H)
def F_node_Get (s_1 : ByteArray) (h : Hp) (R : Value → Hp → Prop) : Prop :=
    bsplit ((s_1.size : Int) != 13)
    (R (.tuple #[.agg #[.int .u8 0, .int .u32 0, .int .u32 0, .int .u32 0], .bool false]) h)
    (HNew h (.cells #[.int .u32 0, .int .u32 0, .int .u32 0] T_a3_uint32) fun b2 h3 => ∃ Iv7 : Nat → Int → Int → Hp → Prop, (∃ i8, Iv7 i8 1 0 h3) ∧ ∀ (i8 : Nat) (at4 : Int) (n5 : Int) (h6 : Hp), Iv7 i8 at4 n5 h6 →
    (bsplit (decide (n5 < 3))
    (∀ cap10 : Nat, s_1.size ≤ cap10 → HNew h6 (.cells ((s_1.data.toList.map fun b => Value.int .u8 b.toNat) ++ List.replicate (cap10 - s_1.size) (Value.int .u8 0)).toArray T_uint8 (cap10, cap10 + 1)) fun b11 h12 =>
    FnH Tryd.prog N_pack_Get #[.slice (some (⟨b11, 0, none⟩)) s_1.size cap10, .int .i64 at4, .int .i64 4] h12 fun v14 h13 => ∃ (n15 : Int) (n16 : Int) (n17 : Int), v14 = (.tuple #[.int .u64 n15, .int .i64 n16, .int .i64 n17]) ∧
    0 ≤ n5 ∧ n5 < (3 : Nat) ∧ HSt h13 (Addr.add (⟨b2, 0, none⟩) ((Int.toNat n5) * 1)) [.int .u32 (IntKind.u32.wrap n15)] fun h18 => I64 (n5 + 1) ∧ ∃ k9, k9 < i8 ∧ Iv7 k9 n16 (n5 + 1) h18)
    (0 ≤ (0 : Int) ∧ (0 : Int) < (s_1.size : Nat) ∧ 0 ≤ (0 : Int) ∧ (0 : Int) < (3 : Nat) ∧ ∃ (n19 : Int), At h6 (Addr.add (⟨b2, 0, none⟩) ((Int.toNat 0) * 1)) [.int .u32 n19] ∧ 0 ≤ (1 : Int) ∧ (1 : Int) < (3 : Nat) ∧
    ∃ (n20 : Int), At h6 (Addr.add (⟨b2, 0, none⟩) ((Int.toNat 1) * 1)) [.int .u32 n20] ∧ 0 ≤ (2 : Int) ∧ (2 : Int) < (3 : Nat) ∧ ∃ (n21 : Int), At h6 (Addr.add (⟨b2, 0, none⟩) ((Int.toNat 2) * 1)) [.int .u32 n21] ∧
    FnH Tryd.prog N_node_May #[.agg #[.int .u8 (byteAt s_1 0), .int .u32 n19, .int .u32 n20, .int .u32 n21]] h6 fun v23 h22 => ∃ (b24 : Bool), v23 = (.bool b24) ∧ bsplit (!b24)
    (R (.tuple #[.agg #[.int .u8 0, .int .u32 0, .int .u32 0, .int .u32 0], .bool false]) h22)
    (R (.tuple #[.agg #[.int .u8 (byteAt s_1 0), .int .u32 n19, .int .u32 n20, .int .u32 n21], .bool true]) h22))))
theorem F_node_Get.calls (s_1 : ByteArray) (h : Hp) (R : Value → Hp → Prop) (H : F_node_Get s_1 h R) : FnH Tryd.prog N_node_Get #[.string s_1] h R :=
  vcFn_calls [(2, 2), (10, 10)] Tryd.func57 (.seq .none (.seq .none (.seq .none (.seq .none (.seq (.seq .none (.block (.loop ⟨[0, 2, 4], [2], [(5, false, [.int .i64]), (15, false, [.int .i64])], []⟩ .none))) .none))))) [.string s_1] (Eq.mp (by unfold F_node_Get; kernel_rfl) H)
def F_keys_of (letter_1 : Int) (ino_2 : Int) (h : Hp) (R : Value → Hp → Prop) : Prop :=
    HNew h (.cells #[.int .u8 letter_1] T_uint8) fun b3 h4 => FnH Tryd.prog N_pack_Put #[.slice (some (⟨b3, 0, none⟩)) 1 1, .int .i64 4, .int .u64 (IntKind.u64.wrap ino_2)] h4 fun v6 h5 =>
    ∃ (a7 : Option Addr) (a7l a7c : Nat), v6 = (.slice a7 a7l a7c) ∧ R (.slice a7 a7l a7c) h5
theorem F_keys_of.calls (letter_1 : Int) (ino_2 : Int) (h : Hp) (R : Value → Hp → Prop) (H : F_keys_of letter_1 ino_2 h R) : FnH Tryd.prog N_keys_of #[.int .u8 letter_1, .int .u32 ino_2] h R :=
  vcFn_calls [(99999, 99999)] Tryd.func58 .none [.int .u8 letter_1, .int .u32 ino_2] (Eq.mp (by unfold F_keys_of; kernel_rfl) H)
def F_pack_wide (n_1 : Int) (h : Hp) (R : Value → Hp → Prop) : Prop :=
    R (.int .i64 (imin (imax n_1 1) 8)) h
theorem F_pack_wide.calls (n_1 : Int) (h : Hp) (R : Value → Hp → Prop) (H : F_pack_wide n_1 h R) : FnH Tryd.prog N_pack_wide #[.int .i64 n_1] h R :=
  vcFn_calls [(99999, 99999)] Tryd.func59 .none [.int .i64 n_1] (Eq.mp (by unfold F_pack_wide; kernel_rfl) H)
def F_pack_own (b_1 : Option Addr) (b_1l b_1c : Nat) (more_2 : Int) (h : Hp) (R : Value → Hp → Prop) : Prop :=
    I64 (((b_1l : Nat) : Int) + more_2) ∧ 0 ≤ (((b_1l : Nat) : Int) + more_2) ∧ (((b_1l : Nat) : Int) + more_2) ≤ (((b_1l : Nat) : Int) + more_2) ∧ (1 : Int) * (((b_1l : Nat) : Int) + more_2) ≤ 281474976710656 ∧ (1 : Nat) ≠ 0 ∧
    HNew h (.cells (repl (Int.toNat (((b_1l : Nat) : Int) + more_2)) [.int .u8 0]).toArray T_uint8) fun b3 h4 =>
    HCopy (tyOf T_uint8) h4 (some (⟨b3, 0, none⟩)) (Int.toNat (((b_1l : Nat) : Int) + more_2)) (.slice b_1 b_1l b_1c) fun n6 h5 =>
    R (.slice (some (⟨b3, 0, none⟩)) (Int.toNat (((b_1l : Nat) : Int) + more_2)) (Int.toNat (((b_1l : Nat) : Int) + more_2))) h5
theorem F_pack_own.calls (b_1 : Option Addr) (b_1l b_1c : Nat) (more_2 : Int) (h : Hp) (R : Value → Hp → Prop) (H : F_pack_own b_1 b_1l b_1c more_2 h R) : FnH Tryd.prog N_pack_own #[.slice b_1 b_1l b_1c, .int .i64 more_2] h R :=
  vcFn_calls [(99999, 99999)] Tryd.func60 .none [.slice b_1 b_1l b_1c, .int .i64 more_2] (Eq.mp (by unfold F_pack_own; kernel_rfl) H)
def F_tree_Tree_Get (t_1 : Option Addr) (key_2 : ByteArray) (h : Hp) (R : Value → Hp → Prop) : Prop :=
    ∃ Iv5 : Nat → Option Addr → Hp → Prop, (∃ i6, Iv5 i6 t_1 h) ∧ ∀ (i6 : Nat) (t3 : Option Addr) (h4 : Hp), Iv5 i6 t3 h4 → (bsplit (!t3.isNone)
    (ptrM t3 fun q8 => ∃ (s9 : ByteArray), At h4 (Addr.add q8 0) [.string s9] ∧ bsplit (!decide (s9 = key_2))
    (ptrM t3 fun q10 => ∃ (s11 : ByteArray), At h4 (Addr.add q10 0) [.string s11] ∧ bsplit (strLt key_2 s11)
    (ptrM t3 fun q12 => ∃ (p13 : Option Addr), At h4 (Addr.add q12 2) [.pointer p13] ∧ ∃ k7, k7 < i6 ∧ Iv5 k7 p13 h4)
    (ptrM t3 fun q14 => ∃ (p15 : Option Addr), At h4 (Addr.add q14 3) [.pointer p15] ∧ ∃ k7, k7 < i6 ∧ Iv5 k7 p15 h4))
    (bsplit t3.isNone
    (R (.tuple #[.string E0, .bool false]) h4)
    (ptrM t3 fun q16 => ∃ (s17 : ByteArray), At h4 (Addr.add q16 1) [.string s17] ∧ R (.tuple #[.string s17, .bool true]) h4)))
    (bsplit t3.isNone
    (R (.tuple #[.string E0, .bool false]) h4)
    (ptrM t3 fun q18 => ∃ (s19 : ByteArray), At h4 (Addr.add q18 1) [.string s19] ∧ R (.tuple #[.string s19, .bool true]) h4)))
theorem F_tree_Tree_Get.calls (t_1 : Option Addr) (key_2 : ByteArray) (h : Hp) (R : Value → Hp → Prop) (H : F_tree_Tree_Get t_1 key_2 h R) : FnH Tryd.prog N_tree_Tree_Get #[.pointer t_1, .string key_2] h R :=
  vcFn_calls [(99999, 99999)] Tryd.func61 (.seq .none (.seq (.block (.loop ⟨[1], [], [(0, false, [.ptr])], []⟩ .none)) .none)) [.pointer t_1, .string key_2] (Eq.mp (by unfold F_tree_Tree_Get; kernel_rfl) H)
def F_tree_Tree_Cut (p1 : Option Addr) (s2 : ByteArray) (h : Hp) (R : Value → Hp → Prop) : Prop :=
    FnH Tryd.prog N_tree_Tree_Get #[.pointer p1, .string s2] h fun v4 h3 => ∃ (s5 : ByteArray) (b6 : Bool), v4 = (.tuple #[.string s5, .bool b6]) ∧ bsplit (!b6)
    (R (.pointer p1) h3)
    (ptrM p1 fun q7 => ∃ (s8 : ByteArray), At h3 (Addr.add q7 0) [.string s8] ∧ bsplit (strLt s2 s8)
    (∃ S9 : Hp → Prop, S9 h3 ∧ ptrM p1 fun q10 => ∃ (p11 : Option Addr), (∀ g, S9 g → At g (Addr.add q10 2) [.pointer p11]) ∧ FnH Tryd.prog N_tree_Tree_Cut #[.pointer p11, .string s2] h3 fun v13 h12 =>
    ∃ (p14 : Option Addr), v13 = (.pointer p14) ∧ S9 h12 ∧ ptrM p1 fun q15 => ∃ (p16 : Option Addr), (∀ g, S9 g → At g (Addr.add q15 3) [.pointer p16]) ∧
    FnH Tryd.prog N_tree_Tree_join #[.pointer p1, .pointer p14, .pointer p16] h12 fun v18 h17 => ∃ (p19 : Option Addr), v18 = (.pointer p19) ∧ R (.pointer p19) h17)
    (ptrM p1 fun q20 => ∃ (s21 : ByteArray), At h3 (Addr.add q20 0) [.string s21] ∧ bsplit (!(strLt s2 s21 || decide (s2 = s21)))
    (∃ S22 : Hp → Prop, S22 h3 ∧ ptrM p1 fun q23 => ∃ (p24 : Option Addr), (∀ g, S22 g → At g (Addr.add q23 2) [.pointer p24]) ∧ ptrM p1 fun q25 => ∃ (p26 : Option Addr), (∀ g, S22 g → At g (Addr.add q25 3) [.pointer p26]) ∧
    FnH Tryd.prog N_tree_Tree_Cut #[.pointer p26, .string s2] h3 fun v28 h27 => ∃ (p29 : Option Addr), v28 = (.pointer p29) ∧ S22 h27 ∧ FnH Tryd.prog N_tree_Tree_join #[.pointer p1, .pointer p24, .pointer p29] h27 fun v31 h30 =>
    ∃ (p32 : Option Addr), v31 = (.pointer p32) ∧ R (.pointer p32) h30)
    (ptrM p1 fun q33 => ∃ (p34 : Option Addr), At h3 (Addr.add q33 2) [.pointer p34] ∧ bsplit p34.isNone
    (ptrM p1 fun q35 => ∃ (p36 : Option Addr), At h3 (Addr.add q35 3) [.pointer p36] ∧ R (.pointer p36) h3)
    (ptrM p1 fun q37 => ∃ (p38 : Option Addr), At h3 (Addr.add q37 3) [.pointer p38] ∧ bsplit p38.isNone
    (ptrM p1 fun q39 => ∃ (p40 : Option Addr), At h3 (Addr.add q39 2) [.pointer p40] ∧ R (.pointer p40) h3)
    (ptrM p1 fun q41 => ∃ (p42 : Option Addr), At h3 (Addr.add q41 3) [.pointer p42] ∧ ∃ Iv45 : Nat → Option Addr → Hp → Prop, (∃ i46, Iv45 i46 p42 h3) ∧ ∀ (i46 : Nat) (p43 : Option Addr) (h44 : Hp), Iv45 i46 p43 h44 →
    (ptrM p43 fun q48 => ∃ (p49 : Option Addr), At h44 (Addr.add q48 2) [.pointer p49] ∧ bsplit (!p49.isNone)
    (ptrM p43 fun q50 => ∃ (p51 : Option Addr), At h44 (Addr.add q50 2) [.pointer p51] ∧ ∃ k47, k47 < i46 ∧ Iv45 k47 p51 h44)
    (∃ S52 : Hp → Prop, S52 h44 ∧ ptrM p1 fun q53 => ∃ (p54 : Option Addr), (∀ g, S52 g → At g (Addr.add q53 2) [.pointer p54]) ∧ ptrM p1 fun q55 => ∃ (p56 : Option Addr), (∀ g, S52 g → At g (Addr.add q55 3) [.pointer p56]) ∧
    ptrM p43 fun q57 => ∃ (s58 : ByteArray), (∀ g, S52 g → At g (Addr.add q57 0) [.string s58]) ∧ FnH Tryd.prog N_tree_Tree_Cut #[.pointer p56, .string s58] h44 fun v60 h59 => ∃ (p61 : Option Addr), v60 = (.pointer p61) ∧ S52 h59 ∧
    FnH Tryd.prog N_tree_Tree_join #[.pointer p43, .pointer p54, .pointer p61] h59 fun v63 h62 => ∃ (p64 : Option Addr), v63 = (.pointer p64) ∧ R (.pointer p64) h62)))))))
theorem F_tree_Tree_Cut.calls (p1 : Option Addr) (s2 : ByteArray) (h : Hp) (R : Value → Hp → Prop) (H : F_tree_Tree_Cut p1 s2 h R) : FnH Tryd.prog N_tree_Tree_Cut #[.pointer p1, .string s2] h R :=
  vcFn_calls [(99999, 99999)] Tryd.func62 (.seq .none (.seq .none (.seq .none (.seq .none (.seq (.block (.loop ⟨[0], [], [(7, false, [.ptr])], []⟩ .none)) .none))))) [.pointer p1, .string s2] (Eq.mp (by unfold F_tree_Tree_Cut; kernel_rfl) H)
def F_keys_behind (s_1 : ByteArray) (h : Hp) (R : Value → Hp → Prop) : Prop :=
    ∀ cap2 : Nat, s_1.size ≤ cap2 → HNew h (.cells ((s_1.data.toList.map fun b => Value.int .u8 b.toNat) ++ List.replicate (cap2 - s_1.size) (Value.int .u8 0)).toArray T_uint8 (cap2, cap2 + 1)) fun b3 h4 =>
    I64 (((s_1.size : Nat) : Int) - 1) ∧ ∃ Iv7 : Nat → Int → Hp → Prop, (∃ i8, Iv7 i8 (((s_1.size : Nat) : Int) - 1) h4) ∧ ∀ (i8 : Nat) (i5 : Int) (h6 : Hp), Iv7 i8 i5 h6 → (0 ≤ i5 ∧ i5 < (s_1.size : Nat) ∧
    ∃ (n10 : Int), At h6 (Addr.add (⟨b3, 0, none⟩) ((Int.toNat i5) * 1)) [.int .u8 n10] ∧ 0 ≤ i5 ∧ i5 < (s_1.size : Nat) ∧ HSt h6 (Addr.add (⟨b3, 0, none⟩) ((Int.toNat i5) * 1)) [.int .u8 (IntKind.u8.wrap (n10 + 1))] fun h11 =>
    0 ≤ i5 ∧ i5 < (s_1.size : Nat) ∧ ∃ (n12 : Int), At h11 (Addr.add (⟨b3, 0, none⟩) ((Int.toNat i5) * 1)) [.int .u8 n12] ∧ bsplit (n12 != 0)
    (I64 (i5 + 1) ∧ 0 ≤ (0 : Int) ∧ (0 : Int) ≤ (i5 + 1) ∧ (i5 + 1) ≤ ((cap2 : Nat) : Int) ∧ ∃ s13 : ByteArray, Bytes h11 (subSl (some (⟨b3, 0, none⟩)) 0 cap2 1) (Int.toNat (i5 + 1 - 0)) s13 ∧ R (.string s13) h11)
    (I64 (i5 - 1) ∧ ∃ k9, k9 < i8 ∧ Iv7 k9 (i5 - 1) h11))
theorem F_keys_behind.calls (s_1 : ByteArray) (h : Hp) (R : Value → Hp → Prop) (H : F_keys_behind s_1 h R) : FnH Tryd.prog N_keys_behind #[.string s_1] h R :=
  vcFn_calls [(99999, 99999)] Tryd.func63 (.seq .none (.seq .none (.seq .none (.block (.loop ⟨[3], [], [(4, false, [.int .i64])], []⟩ .none))))) [.string s_1] (Eq.mp (by unfold F_keys_behind; kernel_rfl) H)
def F_slices_Contains_2_string_2_string (s_1 : Option Addr) (s_1l s_1c : Nat) (v_2 : ByteArray) (v_3 : ByteArray) (h : Hp) (R : Value → Hp → Prop) : Prop :=
    FnH Tryd.prog N_slices_Index_2_string_2_string #[.slice s_1 s_1l s_1c, .agg #[.string v_2, .string v_3]] h fun v5 h4 => ∃ (n6 : Int), v5 = (.int .i64 n6) ∧ R (.bool (decide (n6 ≥ 0))) h4
theorem F_slices_Contains_2_string_2_string.calls (s_1 : Option Addr) (s_1l s_1c : Nat) (v_2 : ByteArray) (v_3 : ByteArray) (h : Hp) (R : Value → Hp → Prop) (H : F_slices_Contains_2_string_2_string s_1 s_1l s_1c v_2 v_3 h R) : FnH Tryd.prog N_slices_Contains_2_string_2_string #[.slice s_1 s_1l s_1c, .agg #[.string v_2, .string v_3]] h R :=
  vcFn_calls [(3, 3)] Tryd.func64 .none [.slice s_1 s_1l s_1c, .agg #[.string v_2, .string v_3]] (Eq.mp (by unfold F_slices_Contains_2_string_2_string; kernel_rfl) H)
def F_tree_Tree_Range (p1 : Option Addr) (s2 : ByteArray) (s3 : ByteArray) (h : Hp) (R : Value → Hp → Prop) : Prop :=
    bsplit p1.isNone
    (R (.slice none 0 0) h)
    (∀ J6 : Option Addr → Nat → Nat → Hp → Prop, (∀ (a4 : Option Addr) (a4l a4c : Nat) (h5 : Hp), (∀ J9 : Option Addr → Nat → Nat → Hp → Prop, (∀ (a7 : Option Addr) (a7l a7c : Nat) (h8 : Hp), (ptrM p1 fun q10 =>
    ∃ (s11 : ByteArray), At h8 (Addr.add q10 0) [.string s11] ∧ bsplit (strLt s11 s3)
    (ptrM p1 fun q12 => ∃ (p13 : Option Addr), At h8 (Addr.add q12 3) [.pointer p13] ∧ FnH Tryd.prog N_tree_Tree_Range #[.pointer p13, .string s2, .string s3] h8 fun v15 h14 =>
    ∃ (a16 : Option Addr) (a16l a16c : Nat), v15 = (.slice a16 a16l a16c) ∧ HApp (tyOf T_api_Pair) T_api_Pair h14 a7 a7l a7c (.slice a16 a16l a16c) fun a18 a18l a18c h17 => R (.slice a18 a18l a18c) h17)
    (R (.slice a7 a7l a7c) h8)) → J9 a7 a7l a7c h8) → ptrM p1 fun q19 => ∃ (s20 : ByteArray), At h5 (Addr.add q19 0) [.string s20] ∧ bsplit (strLt s2 s20 || decide (s2 = s20))
    (ptrM p1 fun q21 => ∃ (s22 : ByteArray), At h5 (Addr.add q21 0) [.string s22] ∧ bsplit (strLt s22 s3)
    (∃ S23 : Hp → Prop, S23 h5 ∧ ptrM p1 fun q24 => ∃ (s25 : ByteArray), (∀ g, S23 g → At g (Addr.add q24 0) [.string s25]) ∧ ptrM p1 fun q26 => ∃ (s27 : ByteArray), (∀ g, S23 g → At g (Addr.add q26 1) [.string s27]) ∧
    HNew h5 (.cells #[.string s25, .string s27, .bool false] T_api_Pair) fun b28 h29 => S23 h29 ∧ HApp (tyOf T_api_Pair) T_api_Pair h29 a4 a4l a4c (.slice (some (⟨b28, 0, none⟩)) 1 1) fun a31 a31l a31c h30 => J9 a31 a31l a31c h30)
    (J9 a4 a4l a4c h5))
    (J9 a4 a4l a4c h5)) → J6 a4 a4l a4c h5) → ptrM p1 fun q32 => ∃ (s33 : ByteArray), At h (Addr.add q32 0) [.string s33] ∧ bsplit (strLt s2 s33)
    (ptrM p1 fun q34 => ∃ (p35 : Option Addr), At h (Addr.add q34 2) [.pointer p35] ∧ FnH Tryd.prog N_tree_Tree_Range #[.pointer p35, .string s2, .string s3] h fun v37 h36 =>
    ∃ (a38 : Option Addr) (a38l a38c : Nat), v37 = (.slice a38 a38l a38c) ∧ J6 a38 a38l a38c h36)
    (J6 none 0 0 h))
theorem F_tree_Tree_Range.calls (p1 : Option Addr) (s2 : ByteArray) (s3 : ByteArray) (h : Hp) (R : Value → Hp → Prop) (H : F_tree_Tree_Range p1 s2 s3 h R) : FnH Tryd.prog N_tree_Tree_Range #[.pointer p1, .string s2, .string s3] h R :=
  vcFn_calls [(99999, 99999)] Tryd.func65 (.seq .none (.seq .none (.seq .none (.join ⟨[0, 1, 2], [], [(7, false, [.slice])], []⟩ .none (.join ⟨[0, 1, 2], [], [(7, false, [.slice])], []⟩ .none .none))))) [.pointer p1, .string s2, .string s3] (Eq.mp (by unfold F_tree_Tree_Range; kernel_rfl) H)
def F_flintref03_Get (b_1 : Option Addr) (b_1l b_1c : Nat) (at_2 : Int) (n_3 : Int) (h : Hp) (R : Value → Hp → Prop) : Prop :=
    bsplit (decide (at_2 < 0))
    (R (.tuple #[.int .u64 0, .int .i64 0, .int .i64 1]) h)
    (bsplit (decide (at_2 > ((b_1l : Nat) : Int)))
    (R (.tuple #[.int .u64 0, .int .i64 0, .int .i64 1]) h)
    (∃ Iv7 : Nat → Int → Int → Hp → Prop, (∃ i8, Iv7 i8 0 0 h) ∧ ∀ (i8 : Nat) (x4 : Int) (i5 : Int) (h6 : Hp), Iv7 i8 x4 i5 h6 → (FnH Tryd.prog N_flintref03_wide #[.int .i64 n_3] h6 fun v11 h10 =>
    ∃ (n12 : Int), v11 = (.int .i64 n12) ∧ bsplit (decide (i5 < n12))
    (I64 (at_2 + i5) ∧ bsplit (decide ((at_2 + i5) ≥ ((b_1l : Nat) : Int)))
    (R (.tuple #[.int .u64 0, .int .i64 0, .int .i64 3]) h10)
    (I64 (at_2 + i5) ∧ 0 ≤ (at_2 + i5) ∧ (at_2 + i5) < (b_1l : Nat) ∧ ptrM b_1 fun q13 => ∃ (n14 : Int), At h10 (Addr.add q13 ((Int.toNat (at_2 + i5)) * 1)) [.int .u8 n14] ∧ I64 (i5 + 1) ∧ ∃ k9, k9 < i8 ∧
    Iv7 k9 (IntKind.u64.wrap ((IntKind.u64.wrap (256 * x4)) + (IntKind.u64.wrap n14))) (i5 + 1) h10))
    (FnH Tryd.prog N_flintref03_wide #[.int .i64 n_3] h10 fun v16 h15 => ∃ (n17 : Int), v16 = (.int .i64 n17) ∧ I64 (at_2 + n17) ∧ R (.tuple #[.int .u64 x4, .int .i64 (at_2 + n17), .int .i64 0]) h15))))
theorem F_flintref03_Get.calls (b_1 : Option Addr) (b_1l b_1c : Nat) (at_2 : Int) (n_3 : Int) (h : Hp) (R : Value → Hp → Prop) (H : F_flintref03_Get b_1 b_1l b_1c at_2 n_3 h R) : FnH Tryd.prog N_flintref03_Get #[.slice b_1 b_1l b_1c, .int .i64 at_2, .int .i64 n_3] h R :=
  vcFn_calls [(99999, 99999)] Tryd.func66 (.seq .none (.seq .none (.seq .none (.seq (.seq .none (.block (.loop ⟨[0, 1, 2], [], [(9, false, [.int .u64]), (10, false, [.int .i64])], []⟩ .none))) .none)))) [.slice b_1 b_1l b_1c, .int .i64 at_2, .int .i64 n_3] (Eq.mp (by unfold F_flintref03_Get; kernel_rfl) H)
def F_tree_Tree_with (t_1 : Option Addr) (left_2 : Option Addr) (right_3 : Option Addr) (h : Hp) (R : Value → Hp → Prop) : Prop :=
    ∃ S4 : Hp → Prop, S4 h ∧ ptrM t_1 fun q5 => ∃ (s6 : ByteArray), (∀ g, S4 g → At g (Addr.add q5 0) [.string s6]) ∧ ptrM t_1 fun q7 => ∃ (s8 : ByteArray), (∀ g, S4 g → At g (Addr.add q7 1) [.string s8]) ∧
    FnH Tryd.prog N_tree_Tree_Len #[.pointer left_2] h fun v10 h9 => ∃ (n11 : Int), v10 = (.int .i64 n11) ∧ S4 h9 ∧ I64 (1 + n11) ∧ FnH Tryd.prog N_tree_Tree_Len #[.pointer right_3] h9 fun v13 h12 =>
    ∃ (n14 : Int), v13 = (.int .i64 n14) ∧ S4 h12 ∧ I64 ((1 + n11) + n14) ∧ FnH Tryd.prog N_tree_Tree_High #[.pointer left_2] h12 fun v16 h15 => ∃ (n17 : Int), v16 = (.int .i64 n17) ∧ S4 h15 ∧
    FnH Tryd.prog N_tree_Tree_High #[.pointer right_3] h15 fun v19 h18 => ∃ (n20 : Int), v19 = (.int .i64 n20) ∧ S4 h18 ∧ I64 (1 + (imax n17 n20)) ∧
    HNew h18 (.cells #[.string s6, .string s8, .pointer left_2, .pointer right_3, .int .i64 ((1 + n11) + n14), .int .i64 (1 + (imax n17 n20))] T_tree_Tree) fun b21 h22 => R (.pointer (some (⟨b21, 0, none⟩))) h22
theorem F_tree_Tree_with.calls (t_1 : Option Addr) (left_2 : Option Addr) (right_3 : Option Addr) (h : Hp) (R : Value → Hp → Prop) (H : F_tree_Tree_with t_1 left_2 right_3 h R) : FnH Tryd.prog N_tree_Tree_with #[.pointer t_1, .pointer left_2, .pointer right_3] h R :=
  vcFn_calls [(99999, 99999)] Tryd.func67 .none [.pointer t_1, .pointer left_2, .pointer right_3] (Eq.mp (by unfold F_tree_Tree_with; kernel_rfl) H)
def F_tree_Tree_lean (t_1 : Option Addr) (h : Hp) (R : Value → Hp → Prop) : Prop :=
    ∃ S2 : Hp → Prop, S2 h ∧ ptrM t_1 fun q3 => ∃ (p4 : Option Addr), (∀ g, S2 g → At g (Addr.add q3 2) [.pointer p4]) ∧ FnH Tryd.prog N_tree_Tree_High #[.pointer p4] h fun v6 h5 => ∃ (n7 : Int), v6 = (.int .i64 n7) ∧ S2 h5 ∧
    ptrM t_1 fun q8 => ∃ (p9 : Option Addr), (∀ g, S2 g → At g (Addr.add q8 3) [.pointer p9]) ∧ FnH Tryd.prog N_tree_Tree_High #[.pointer p9] h5 fun v11 h10 => ∃ (n12 : Int), v11 = (.int .i64 n12) ∧ I64 (n7 - n12) ∧
    R (.int .i64 (n7 - n12)) h10
theorem F_tree_Tree_lean.calls (t_1 : Option Addr) (h : Hp) (R : Value → Hp → Prop) (H : F_tree_Tree_lean t_1 h R) : FnH Tryd.prog N_tree_Tree_lean #[.pointer t_1] h R :=
  vcFn_calls [(99999, 99999)] Tryd.func68 .none [.pointer t_1] (Eq.mp (by unfold F_tree_Tree_lean; kernel_rfl) H)
def F_tree_Tree_turnLeft (t_1 : Option Addr) (h : Hp) (R : Value → Hp → Prop) : Prop :=
    ∃ S2 : Hp → Prop, S2 h ∧ ptrM t_1 fun q3 => ∃ (p4 : Option Addr), (∀ g, S2 g → At g (Addr.add q3 3) [.pointer p4]) ∧ ptrM t_1 fun q5 => ∃ (p6 : Option Addr), (∀ g, S2 g → At g (Addr.add q5 2) [.pointer p6]) ∧ ptrM t_1 fun q7 =>
    ∃ (p8 : Option Addr), (∀ g, S2 g → At g (Addr.add q7 3) [.pointer p8]) ∧ ptrM p8 fun q9 => ∃ (p10 : Option Addr), (∀ g, S2 g → At g (Addr.add q9 2) [.pointer p10]) ∧
    FnH Tryd.prog N_tree_Tree_with #[.pointer t_1, .pointer p6, .pointer p10] h fun v12 h11 => ∃ (p13 : Option Addr), v12 = (.pointer p13) ∧ S2 h11 ∧ ptrM t_1 fun q14 => ∃ (p15 : Option Addr), (∀ g, S2 g →
    At g (Addr.add q14 3) [.pointer p15]) ∧ ptrM p15 fun q16 => ∃ (p17 : Option Addr), (∀ g, S2 g → At g (Addr.add q16 3) [.pointer p17]) ∧ FnH Tryd.prog N_tree_Tree_with #[.pointer p4, .pointer p13, .pointer p17] h11 fun v19 h18 =>
    ∃ (p20 : Option Addr), v19 = (.pointer p20) ∧ R (.pointer p20) h18
theorem F_tree_Tree_turnLeft.calls (t_1 : Option Addr) (h : Hp) (R : Value → Hp → Prop) (H : F_tree_Tree_turnLeft t_1 h R) : FnH Tryd.prog N_tree_Tree_turnLeft #[.pointer t_1] h R :=
  vcFn_calls [(99999, 99999)] Tryd.func69 .none [.pointer t_1] (Eq.mp (by unfold F_tree_Tree_turnLeft; kernel_rfl) H)
def F_tree_Tree_turnRight (t_1 : Option Addr) (h : Hp) (R : Value → Hp → Prop) : Prop :=
    ∃ S2 : Hp → Prop, S2 h ∧ ptrM t_1 fun q3 => ∃ (p4 : Option Addr), (∀ g, S2 g → At g (Addr.add q3 2) [.pointer p4]) ∧ ptrM t_1 fun q5 => ∃ (p6 : Option Addr), (∀ g, S2 g → At g (Addr.add q5 2) [.pointer p6]) ∧ ptrM p6 fun q7 =>
    ∃ (p8 : Option Addr), (∀ g, S2 g → At g (Addr.add q7 2) [.pointer p8]) ∧ ptrM t_1 fun q9 => ∃ (p10 : Option Addr), (∀ g, S2 g → At g (Addr.add q9 2) [.pointer p10]) ∧ ptrM p10 fun q11 => ∃ (p12 : Option Addr), (∀ g, S2 g →
    At g (Addr.add q11 3) [.pointer p12]) ∧ ptrM t_1 fun q13 => ∃ (p14 : Option Addr), (∀ g, S2 g → At g (Addr.add q13 3) [.pointer p14]) ∧ FnH Tryd.prog N_tree_Tree_with #[.pointer t_1, .pointer p12, .pointer p14] h fun v16 h15 =>
    ∃ (p17 : Option Addr), v16 = (.pointer p17) ∧ S2 h15 ∧ FnH Tryd.prog N_tree_Tree_with #[.pointer p4, .pointer p8, .pointer p17] h15 fun v19 h18 => ∃ (p20 : Option Addr), v19 = (.pointer p20) ∧ R (.pointer p20) h18
theorem F_tree_Tree_turnRight.calls (t_1 : Option Addr) (h : Hp) (R : Value → Hp → Prop) (H : F_tree_Tree_turnRight t_1 h R) : FnH Tryd.prog N_tree_Tree_turnRight #[.pointer t_1] h R :=
  vcFn_calls [(99999, 99999)] Tryd.func70 .none [.pointer t_1] (Eq.mp (by unfold F_tree_Tree_turnRight; kernel_rfl) H)
def F_ark_saver_entry (p1 : Option Addr) (s2 : ByteArray) (n3 : Int) (n4 : Int) (n5 : Int) (n6 : Int) (n7 : Int) (n8 : Int) (h : Hp) (R : Value → Hp → Prop) : Prop :=
    bsplit (n4 == 2)
    (ptrM p1 fun q9 => ∃ (a10 : Option Addr) (a10l a10c : Nat), At h (Addr.add q9 2) [.slice a10 a10l a10c] ∧ HNew h (.cells #[.int .u8 100] T_uint8) fun b11 h12 =>
    HApp (tyOf T_uint8) T_uint8 h12 a10 a10l a10c (.slice (some (⟨b11, 0, none⟩)) 1 1) fun a14 a14l a14c h13 => FnH Tryd.prog N_pack_PutText #[.slice a14 a14l a14c, .string s2] h13 fun v16 h15 =>
    ∃ (a17 : Option Addr) (a17l a17c : Nat), v16 = (.slice a17 a17l a17c) ∧ ptrM p1 fun q18 => HSt h15 (Addr.add q18 2) [.slice a17 a17l a17c] fun h19 =>
    FnH Tryd.prog N_ark_saver_dir #[.pointer p1, .string s2, .int .u32 n3, .int .i64 n8] h19 fun v21 h20 => v21 = (.tuple #[]) ∧ R (.tuple #[]) h20)
    (ptrM p1 fun q22 => ∃ (m23 : Option Nat), At h (Addr.add q22 1) [.map m23] ∧ ∃ es24, MapIs h m23 es24 ∧ keysOf (Kd.int .u32) es24 ∧ ∃ (s25 : ByteArray), (mfind (.int .u32 n3) es24).getD (.string E0) = (.string s25) ∧
    bsplit ((mfind (.int .u32 n3) es24).isSome)
    (ptrM p1 fun q26 => ∃ (a27 : Option Addr) (a27l a27c : Nat), At h (Addr.add q26 2) [.slice a27 a27l a27c] ∧ HNew h (.cells #[.int .u8 108] T_uint8) fun b28 h29 =>
    HApp (tyOf T_uint8) T_uint8 h29 a27 a27l a27c (.slice (some (⟨b28, 0, none⟩)) 1 1) fun a31 a31l a31c h30 => FnH Tryd.prog N_pack_PutText #[.slice a31 a31l a31c, .string s2] h30 fun v33 h32 =>
    ∃ (a34 : Option Addr) (a34l a34c : Nat), v33 = (.slice a34 a34l a34c) ∧ ptrM p1 fun q35 => HSt h32 (Addr.add q35 2) [.slice a34 a34l a34c] fun h36 => ptrM p1 fun q37 =>
    ∃ (a38 : Option Addr) (a38l a38c : Nat), At h36 (Addr.add q37 2) [.slice a38 a38l a38c] ∧ FnH Tryd.prog N_pack_PutText #[.slice a38 a38l a38c, .string s25] h36 fun v40 h39 =>
    ∃ (a41 : Option Addr) (a41l a41c : Nat), v40 = (.slice a41 a41l a41c) ∧ ptrM p1 fun q42 => HSt h39 (Addr.add q42 2) [.slice a41 a41l a41c] fun h43 => R (.tuple #[]) h43)
    (ptrM p1 fun q44 => ∃ (m45 : Option Nat), At h (Addr.add q44 1) [.map m45] ∧ HMap (Kd.int .u32) h m45 (.int .u32 n3) (.string s2) fun h46 => ptrM p1 fun q47 => ∃ (p48 : Option Addr), At h46 (Addr.add q47 0) [.pointer p48] ∧
    FnH Tryd.prog N_files_All #[.pointer p48, .int .u32 n3] h46 fun v50 h49 => ∃ (a51 : Option Addr) (a51l a51c : Nat) (n52 : Int), v50 = (.tuple #[.slice a51 a51l a51c, .int .i64 n52]) ∧ ptrM p1 fun q53 =>
    ∃ (a54 : Option Addr) (a54l a54c : Nat), At h49 (Addr.add q53 2) [.slice a54 a54l a54c] ∧ HNew h49 (.cells #[.int .u8 102] T_uint8) fun b55 h56 =>
    HApp (tyOf T_uint8) T_uint8 h56 a54 a54l a54c (.slice (some (⟨b55, 0, none⟩)) 1 1) fun a58 a58l a58c h57 => FnH Tryd.prog N_pack_PutText #[.slice a58 a58l a58c, .string s2] h57 fun v60 h59 =>
    ∃ (a61 : Option Addr) (a61l a61c : Nat), v60 = (.slice a61 a61l a61c) ∧ ptrM p1 fun q62 => HSt h59 (Addr.add q62 2) [.slice a61 a61l a61c] fun h63 => ptrM p1 fun q64 =>
    ∃ (a65 : Option Addr) (a65l a65c : Nat), At h63 (Addr.add q64 2) [.slice a65 a65l a65c] ∧ FnH Tryd.prog N_pack_Put #[.slice a65 a65l a65c, .int .i64 2, .int .u64 (IntKind.u64.wrap ((a51l : Nat) : Int))] h63 fun v67 h66 =>
    ∃ (a68 : Option Addr) (a68l a68c : Nat), v67 = (.slice a68 a68l a68c) ∧ HApp (tyOf T_uint8) T_uint8 h66 a68 a68l a68c (.slice a51 a51l a51c) fun a70 a70l a70c h69 => ptrM p1 fun q71 =>
    HSt h69 (Addr.add q71 2) [.slice a70 a70l a70c] fun h72 => R (.tuple #[]) h72))
theorem F_ark_saver_entry.calls (p1 : Option Addr) (s2 : ByteArray) (n3 : Int) (n4 : Int) (n5 : Int) (n6 : Int) (n7 : Int) (n8 : Int) (h : Hp) (R : Value → Hp → Prop) (H : F_ark_saver_entry p1 s2 n3 n4 n5 n6 n7 n8 h R) : FnH Tryd.prog N_ark_saver_entry #[.pointer p1, .string s2, .int .u32 n3, .agg #[.int .u8 n4, .int .u32 n5, .int .u32 n6, .int .u32 n7], .int .i64 n8] h R :=
  vcFn_calls [(8, 8), (14, 8)] Tryd.func71 .none [.pointer p1, .string s2, .int .u32 n3, .agg #[.int .u8 n4, .int .u32 n5, .int .u32 n6, .int .u32 n7], .int .i64 n8] (Eq.mp (by unfold F_ark_saver_entry; kernel_rfl) H)
def F_ark_loader_part (l_1 : Option Addr) (h : Hp) (R : Value → Hp → Prop) : Prop :=
    ptrM l_1 fun q2 => ∃ (a3 : Option Addr) (a3l a3c : Nat), At h (Addr.add q2 0) [.slice a3 a3l a3c] ∧ ptrM l_1 fun q4 => ∃ (n5 : Int), At h (Addr.add q4 1) [.int .i64 n5] ∧ 0 ≤ n5 ∧ n5 < (a3l : Nat) ∧ ptrM a3 fun q6 =>
    ∃ (n7 : Int), At h (Addr.add q6 ((Int.toNat n5) * 1)) [.int .u8 n7] ∧ bsplit (n7 != 100)
    (bsplit (n7 != 102)
    (bsplit (n7 != 108)
    (FnH Tryd.prog N_ark_loader_fails #[.pointer l_1, .int .i64 2] h fun v9 h8 => v9 = (.tuple #[]) ∧ R (.tuple #[]) h8)
    (ptrM l_1 fun q10 => ∃ (n11 : Int), At h (Addr.add q10 1) [.int .i64 n11] ∧ I64 (n11 + 1) ∧ ptrM l_1 fun q12 => HSt h (Addr.add q12 1) [.int .i64 (n11 + 1)] fun h13 =>
    FnH Tryd.prog N_ark_loader_path #[.pointer l_1] h13 fun v15 h14 => ∃ (s16 : ByteArray), v15 = (.string s16) ∧ bsplit (n7 == 100)
    (HNew h14 (.cells #[.int .u8 5, .string s16, .string E0, .int .i64 0, .int .i64 0, .int .i64 0, .slice none 0 0] T_api_Op) fun b17 h18 =>
    FnH Tryd.prog N_ark_loader_does #[.pointer l_1, .slice (some (⟨b17, 0, none⟩)) 1 1] h18 fun v20 h19 => v20 = (.tuple #[]) ∧ R (.tuple #[]) h19)
    (bsplit (n7 == 102)
    (FnH Tryd.prog N_ark_loader_data #[.pointer l_1] h14 fun v22 h21 => ∃ (a23 : Option Addr) (a23l a23c : Nat), v22 = (.slice a23 a23l a23c) ∧
    FnH Tryd.prog N_ark_loader_file #[.pointer l_1, .string s16, .slice a23 a23l a23c] h21 fun v25 h24 => v25 = (.tuple #[]) ∧ R (.tuple #[]) h24)
    (bsplit (n7 == 108)
    (FnH Tryd.prog N_ark_loader_path #[.pointer l_1] h14 fun v27 h26 => ∃ (s28 : ByteArray), v27 = (.string s28) ∧
    HNew h26 (.cells #[.int .u8 12, .string s28, .string s16, .int .i64 0, .int .i64 0, .int .i64 0, .slice none 0 0] T_api_Op) fun b29 h30 =>
    FnH Tryd.prog N_ark_loader_does #[.pointer l_1, .slice (some (⟨b29, 0, none⟩)) 1 1] h30 fun v32 h31 => v32 = (.tuple #[]) ∧ R (.tuple #[]) h31)
    (R (.tuple #[]) h14)))))
    (ptrM l_1 fun q33 => ∃ (n34 : Int), At h (Addr.add q33 1) [.int .i64 n34] ∧ I64 (n34 + 1) ∧ ptrM l_1 fun q35 => HSt h (Addr.add q35 1) [.int .i64 (n34 + 1)] fun h36 =>
    FnH Tryd.prog N_ark_loader_path #[.pointer l_1] h36 fun v38 h37 => ∃ (s39 : ByteArray), v38 = (.string s39) ∧ bsplit (n7 == 100)
    (HNew h37 (.cells #[.int .u8 5, .string s39, .string E0, .int .i64 0, .int .i64 0, .int .i64 0, .slice none 0 0] T_api_Op) fun b40 h41 =>
    FnH Tryd.prog N_ark_loader_does #[.pointer l_1, .slice (some (⟨b40, 0, none⟩)) 1 1] h41 fun v43 h42 => v43 = (.tuple #[]) ∧ R (.tuple #[]) h42)
    (bsplit (n7 == 102)
    (FnH Tryd.prog N_ark_loader_data #[.pointer l_1] h37 fun v45 h44 => ∃ (a46 : Option Addr) (a46l a46c : Nat), v45 = (.slice a46 a46l a46c) ∧
    FnH Tryd.prog N_ark_loader_file #[.pointer l_1, .string s39, .slice a46 a46l a46c] h44 fun v48 h47 => v48 = (.tuple #[]) ∧ R (.tuple #[]) h47)
    (bsplit (n7 == 108)
    (FnH Tryd.prog N_ark_loader_path #[.pointer l_1] h37 fun v50 h49 => ∃ (s51 : ByteArray), v50 = (.string s51) ∧
    HNew h49 (.cells #[.int .u8 12, .string s51, .string s39, .int .i64 0, .int .i64 0, .int .i64 0, .slice none 0 0] T_api_Op) fun b52 h53 =>
    FnH Tryd.prog N_ark_loader_does #[.pointer l_1, .slice (some (⟨b52, 0, none⟩)) 1 1] h53 fun v55 h54 => v55 = (.tuple #[]) ∧ R (.tuple #[]) h54)
    (R (.tuple #[]) h37)))))
    (ptrM l_1 fun q56 => ∃ (n57 : Int), At h (Addr.add q56 1) [.int .i64 n57] ∧ I64 (n57 + 1) ∧ ptrM l_1 fun q58 => HSt h (Addr.add q58 1) [.int .i64 (n57 + 1)] fun h59 =>
    FnH Tryd.prog N_ark_loader_path #[.pointer l_1] h59 fun v61 h60 => ∃ (s62 : ByteArray), v61 = (.string s62) ∧ bsplit (n7 == 100)
    (HNew h60 (.cells #[.int .u8 5, .string s62, .string E0, .int .i64 0, .int .i64 0, .int .i64 0, .slice none 0 0] T_api_Op) fun b63 h64 =>
    FnH Tryd.prog N_ark_loader_does #[.pointer l_1, .slice (some (⟨b63, 0, none⟩)) 1 1] h64 fun v66 h65 => v66 = (.tuple #[]) ∧ R (.tuple #[]) h65)
    (bsplit (n7 == 102)
    (FnH Tryd.prog N_ark_loader_data #[.pointer l_1] h60 fun v68 h67 => ∃ (a69 : Option Addr) (a69l a69c : Nat), v68 = (.slice a69 a69l a69c) ∧
    FnH Tryd.prog N_ark_loader_file #[.pointer l_1, .string s62, .slice a69 a69l a69c] h67 fun v71 h70 => v71 = (.tuple #[]) ∧ R (.tuple #[]) h70)
    (bsplit (n7 == 108)
    (FnH Tryd.prog N_ark_loader_path #[.pointer l_1] h60 fun v73 h72 => ∃ (s74 : ByteArray), v73 = (.string s74) ∧
    HNew h72 (.cells #[.int .u8 12, .string s74, .string s62, .int .i64 0, .int .i64 0, .int .i64 0, .slice none 0 0] T_api_Op) fun b75 h76 =>
    FnH Tryd.prog N_ark_loader_does #[.pointer l_1, .slice (some (⟨b75, 0, none⟩)) 1 1] h76 fun v78 h77 => v78 = (.tuple #[]) ∧ R (.tuple #[]) h77)
    (R (.tuple #[]) h60))))
theorem F_ark_loader_part.calls (l_1 : Option Addr) (h : Hp) (R : Value → Hp → Prop) (H : F_ark_loader_part l_1 h R) : FnH Tryd.prog N_ark_loader_part #[.pointer l_1] h R :=
  vcFn_calls [(99999, 99999)] Tryd.func72 .none [.pointer l_1] (Eq.mp (by unfold F_ark_loader_part; kernel_rfl) H)
def F_flintref03_wide (n_1 : Int) (h : Hp) (R : Value → Hp → Prop) : Prop :=
    bsplit (decide (n_1 < 1))
    (R (.int .i64 1) h)
    (bsplit (decide (n_1 > 8))
    (R (.int .i64 8) h)
    (R (.int .i64 n_1) h))
theorem F_flintref03_wide.calls (n_1 : Int) (h : Hp) (R : Value → Hp → Prop) (H : F_flintref03_wide n_1 h R) : FnH Tryd.prog N_flintref03_wide #[.int .i64 n_1] h R :=
  vcFn_calls [(99999, 99999)] Tryd.func73 .none [.int .i64 n_1] (Eq.mp (by unfold F_flintref03_wide; kernel_rfl) H)
def F_strings_genSplit (s1 : ByteArray) (s2 : ByteArray) (n3 : Int) (n4 : Int) (h : Hp) (R : Value → Hp → Prop) : Prop :=
    bsplit (n4 == 0)
    (R (.slice none 0 0) h)
    (bsplit (decide (s2 = E0))
    (FnH Tryd.prog N_strings_explode #[.string s1, .int .i64 n4] h fun v6 h5 => ∃ (a7 : Option Addr) (a7l a7c : Nat), v6 = (.slice a7 a7l a7c) ∧ R (.slice a7 a7l a7c) h5)
    (∀ J10 : Int → Hp → Prop, (∀ (n8 : Int) (h9 : Hp), (I64 ((s1.size : Int) + 1) ∧ 0 ≤ (imin n8 ((s1.size : Int) + 1)) ∧ (imin n8 ((s1.size : Int) + 1)) ≤ (imin n8 ((s1.size : Int) + 1)) ∧
    (16 : Int) * (imin n8 ((s1.size : Int) + 1)) ≤ 281474976710656 ∧ (16 : Nat) ≠ 0 ∧ HNew h9 (.cells (repl (Int.toNat (imin n8 ((s1.size : Int) + 1))) [.string E0]).toArray T_string) fun b11 h12 =>
    I64 ((imin n8 ((s1.size : Int) + 1)) - 1) ∧ ∀ J16 : ByteArray → Int → Hp → Prop, (∀ (s13 : ByteArray) (n14 : Int) (h15 : Hp), (0 ≤ n14 ∧ n14 < (Int.toNat (imin n8 ((s1.size : Int) + 1)) : Nat) ∧
    HSt h15 (Addr.add (⟨b11, 0, none⟩) ((Int.toNat n14) * 1)) [.string s13] fun h17 => I64 (n14 + 1) ∧ 0 ≤ (0 : Int) ∧ (0 : Int) ≤ (n14 + 1) ∧ (n14 + 1) ≤ ((Int.toNat (imin n8 ((s1.size : Int) + 1)) : Nat) : Int) ∧
    R (.slice (subSl (some (⟨b11, 0, none⟩)) 0 (Int.toNat (imin n8 ((s1.size : Int) + 1))) 1) (Int.toNat (n14 + 1 - 0)) (Int.toNat ((Int.toNat (imin n8 ((s1.size : Int) + 1)) : Int) - 0))) h17) → J16 s13 n14 h15) → ∃ Iv21 : Nat →
    ByteArray → Int → Hp → Prop, (∃ i22, Iv21 i22 s1 0 h12) ∧ ∀ (i22 : Nat) (s18 : ByteArray) (n19 : Int) (h20 : Hp), Iv21 i22 s18 n19 h20 → (bsplit (decide (n19 < ((imin n8 ((s1.size : Int) + 1)) - 1)))
    (FnH Tryd.prog N_strings_Index #[.string s18, .string s2] h20 fun v25 h24 => ∃ (n26 : Int), v25 = (.int .i64 n26) ∧ bsplit (decide (n26 < 0))
    (J16 s18 n19 h24)
    (I64 (n26 + n3) ∧ 0 ≤ (0 : Int) ∧ (0 : Int) ≤ (n26 + n3) ∧ (n26 + n3) ≤ (s18.size : Int) ∧ 0 ≤ n19 ∧ n19 < (Int.toNat (imin n8 ((s1.size : Int) + 1)) : Nat) ∧
    HSt h24 (Addr.add (⟨b11, 0, none⟩) ((Int.toNat n19) * 1)) [.string (ByteArray.extract s18 (Int.toNat 0) (Int.toNat (n26 + n3)))] fun h27 => I64 (n26 + (s2.size : Int)) ∧ 0 ≤ (n26 + (s2.size : Int)) ∧
    (n26 + (s2.size : Int)) ≤ (s18.size : Int) ∧ (s18.size : Int) ≤ (s18.size : Int) ∧ I64 (n19 + 1) ∧ ∃ k23, k23 < i22 ∧
    Iv21 k23 (ByteArray.extract s18 (Int.toNat (n26 + (s2.size : Int))) (Int.toNat (s18.size : Int))) (n19 + 1) h27))
    (J16 s18 n19 h20))) → J10 n8 h9) → bsplit (decide (n4 < 0))
    (FnH Tryd.prog N_strings_Count #[.string s1, .string s2] h fun v29 h28 => ∃ (n30 : Int), v29 = (.int .i64 n30) ∧ I64 (n30 + 1) ∧ J10 (n30 + 1) h28)
    (J10 n4 h)))
theorem F_strings_genSplit.calls (s1 : ByteArray) (s2 : ByteArray) (n3 : Int) (n4 : Int) (h : Hp) (R : Value → Hp → Prop) (H : F_strings_genSplit s1 s2 n3 n4 h R) : FnH Tryd.prog N_strings_genSplit #[.string s1, .string s2, .int .i64 n3, .int .i64 n4] h R :=
  vcFn_calls [(99999, 99999)] Tryd.func74 (.seq .none (.seq .none (.seq .none (.join ⟨[0, 1, 2], [], [(3, false, [.int .i64])], []⟩ .none (.seq .none (.seq .none (.seq .none (.seq .none (.join ⟨[9], [], [(0, false, [.str]), (10, false, [.int .i64])], []⟩ (.block (.loop ⟨[1, 2, 3, 9], [], [(0, false, [.str]), (10, false, [.int .i64])], []⟩ .none)) .none))))))))) [.string s1, .string s2, .int .i64 n3, .int .i64 n4] (Eq.mp (by unfold F_strings_genSplit; kernel_rfl) H)
def F_slices_ContainsFunc_string_string (s_1 : Option Addr) (s_1l s_1c : Nat) (f_2 : Fn) (f_2a f_2b : Array Value) (h : Hp) (R : Value → Hp → Prop) : Prop :=
    FnH Tryd.prog N_slices_IndexFunc_string_string #[.slice s_1 s_1l s_1c, .func f_2 f_2a f_2b] h fun v4 h3 => ∃ (n5 : Int), v4 = (.int .i64 n5) ∧ R (.bool (decide (n5 ≥ 0))) h3
theorem F_slices_ContainsFunc_string_string.calls (s_1 : Option Addr) (s_1l s_1c : Nat) (f_2 : Fn) (f_2a f_2b : Array Value) (h : Hp) (R : Value → Hp → Prop) (H : F_slices_ContainsFunc_string_string s_1 s_1l s_1c f_2 f_2a f_2b h R) : FnH Tryd.prog N_slices_ContainsFunc_string_string #[.slice s_1 s_1l s_1c, .func f_2 f_2a f_2b] h R :=
  vcFn_calls [(99999, 99999)] Tryd.func75 .none [.slice s_1 s_1l s_1c, .func f_2 f_2a f_2b] (Eq.mp (by unfold F_slices_ContainsFunc_string_string; kernel_rfl) H)
def F_names_may_1 (s_1 : ByteArray) (h : Hp) (R : Value → Hp → Prop) : Prop :=
    FnH Tryd.prog N_keys_Name #[.string s_1] h fun v3 h2 => ∃ (b4 : Bool), v3 = (.bool b4) ∧ R (.bool (!b4)) h2
theorem F_names_may_1.calls (s_1 : ByteArray) (h : Hp) (R : Value → Hp → Prop) (H : F_names_may_1 s_1 h R) : FnH Tryd.prog N_names_may_1 #[.string s_1] h R :=
  vcFn_calls [(99999, 99999)] Tryd.func76 .none [.string s_1] (Eq.mp (by unfold F_names_may_1; kernel_rfl) H)
def F_keys_Name (name_1 : ByteArray) (h : Hp) (R : Value → Hp → Prop) : Prop :=
    HNew h (.stringIter name_1 0) fun b2 h3 => ∃ Iv5 : Nat → Hp → Prop, (∃ i6, Iv5 i6 h3) ∧ ∀ (i6 : Nat) (h4 : Hp), Iv5 i6 h4 → (HNext h4 b2 (fun i8 c9 h10 => bsplit (c9 == 0)
    (R (.bool false) h10)
    (bsplit (c9 == 47)
    (R (.bool false) h10)
    (∃ k7, k7 < i6 ∧ Iv5 k7 h10))) (fun h11 => bsplit (!decide (name_1 = E0))
    (bsplit (decide ((name_1.size : Int) ≤ 32))
    (bsplit (!decide (name_1 = (ByteArray.mk #[46])))
    (R (.bool (!decide (name_1 = (ByteArray.mk #[46, 46])))) h11)
    (R (.bool false) h11))
    (R (.bool false) h11))
    (R (.bool false) h11)))
theorem F_keys_Name.calls (name_1 : ByteArray) (h : Hp) (R : Value → Hp → Prop) (H : F_keys_Name name_1 h R) : FnH Tryd.prog N_keys_Name #[.string name_1] h R :=
  vcFn_calls [(99999, 99999)] Tryd.func77 (.seq .none (.seq (.seq .none (.block (.loop ⟨[0, 6], [], [], []⟩ .none))) .none)) [.string name_1] (Eq.mp (by unfold F_keys_Name; kernel_rfl) H)
def F_node_New (kind_1 : Int) (parent_2 : Int) (h : Hp) (R : Value → Hp → Prop) : Prop :=
    bsplit (kind_1 == 1)
    (R (.agg #[.int .u8 1, .int .u32 1, .int .u32 0, .int .u32 0]) h)
    (R (.agg #[.int .u8 2, .int .u32 2, .int .u32 0, .int .u32 parent_2]) h)
theorem F_node_New.calls (kind_1 : Int) (parent_2 : Int) (h : Hp) (R : Value → Hp → Prop) (H : F_node_New kind_1 parent_2 h R) : FnH Tryd.prog N_node_New #[.int .u8 kind_1, .int .u32 parent_2] h R :=
  vcFn_calls [(4, 4)] Tryd.func78 .none [.int .u8 kind_1, .int .u32 parent_2] (Eq.mp (by unfold F_node_New; kernel_rfl) H)
def F_node_May (x_1 : Int) (x_2 : Int) (x_3 : Int) (x_4 : Int) (h : Hp) (R : Value → Hp → Prop) : Prop :=
    bsplit (x_1 == 1)
    (bsplit (decide (x_2 ≥ 1))
    (bsplit (decide (x_2 ≤ 1000))
    (bsplit (decide (x_3 ≤ 4096))
    (R (.bool (x_4 == 0)) h)
    (R (.bool false) h))
    (R (.bool false) h))
    (R (.bool false) h))
    (bsplit (x_1 == 2)
    (bsplit (decide (x_2 ≥ 2))
    (R (.bool (x_3 == 0)) h)
    (R (.bool false) h))
    (R (.bool false) h))
theorem F_node_May.calls (x_1 : Int) (x_2 : Int) (x_3 : Int) (x_4 : Int) (h : Hp) (R : Value → Hp → Prop) (H : F_node_May x_1 x_2 x_3 x_4 h R) : FnH Tryd.prog N_node_May #[.agg #[.int .u8 x_1, .int .u32 x_2, .int .u32 x_3, .int .u32 x_4]] h R :=
  vcFn_calls [(1, 1), (3, 1), (7, 1), (11, 1), (16, 1), (21, 1), (27, 1), (31, 1)] Tryd.func79 .none [.agg #[.int .u8 x_1, .int .u32 x_2, .int .u32 x_3, .int .u32 x_4]] (Eq.mp (by unfold F_node_May; kernel_rfl) H)
def F_slices_Index_2_string_2_string (s_1 : Option Addr) (s_1l s_1c : Nat) (v_2 : ByteArray) (v_3 : ByteArray) (h : Hp) (R : Value → Hp → Prop) : Prop :=
    ∃ Iv6 : Nat → Int → Hp → Prop, (∃ i7, Iv6 i7 0 h) ∧ ∀ (i7 : Nat) (n4 : Int) (h5 : Hp), Iv6 i7 n4 h5 → (bsplit (decide (n4 < ((s_1l : Nat) : Int)))
    (0 ≤ n4 ∧ n4 < (s_1l : Nat) ∧ ptrM s_1 fun q9 => ∃ (s10 : ByteArray) (s11 : ByteArray), At h5 (Addr.add q9 ((Int.toNat n4) * 2)) [.string s10, .string s11] ∧ bsplit (aggEq [.string v_2, .string v_3] [.string s10, .string s11])
    (R (.int .i64 n4) h5)
    (I64 (n4 + 1) ∧ ∃ k8, k8 < i7 ∧ Iv6 k8 (n4 + 1) h5))
    (R (.int .i64 (-1)) h5))
theorem F_slices_Index_2_string_2_string.calls (s_1 : Option Addr) (s_1l s_1c : Nat) (v_2 : ByteArray) (v_3 : ByteArray) (h : Hp) (R : Value → Hp → Prop) (H : F_slices_Index_2_string_2_string s_1 s_1l s_1c v_2 v_3 h R) : FnH Tryd.prog N_slices_Index_2_string_2_string #[.slice s_1 s_1l s_1c, .agg #[.string v_2, .string v_3]] h R :=
  vcFn_calls [(3, 3)] Tryd.func80 (.seq .none (.seq (.seq .none (.block (.loop ⟨[0, 3, 7], [3], [(8, false, [.int .i64])], []⟩ .none))) .none)) [.slice s_1 s_1l s_1c, .agg #[.string v_2, .string v_3]] (Eq.mp (by unfold F_slices_Index_2_string_2_string; kernel_rfl) H)
def F_tree_Tree_High (t_1 : Option Addr) (h : Hp) (R : Value → Hp → Prop) : Prop :=
    bsplit t_1.isNone
    (R (.int .i64 0) h)
    (ptrM t_1 fun q2 => ∃ (n3 : Int), At h (Addr.add q2 5) [.int .i64 n3] ∧ R (.int .i64 n3) h)
theorem F_tree_Tree_High.calls (t_1 : Option Addr) (h : Hp) (R : Value → Hp → Prop) (H : F_tree_Tree_High t_1 h R) : FnH Tryd.prog N_tree_Tree_High #[.pointer t_1] h R :=
  vcFn_calls [(99999, 99999)] Tryd.func81 .none [.pointer t_1] (Eq.mp (by unfold F_tree_Tree_High; kernel_rfl) H)
def F_pack_PutText (b_1 : Option Addr) (b_1l b_1c : Nat) (s_2 : ByteArray) (h : Hp) (R : Value → Hp → Prop) : Prop :=
    0 ≤ (0 : Int) ∧ (0 : Int) ≤ (imin (s_2.size : Int) 255) ∧ (imin (s_2.size : Int) 255) ≤ (s_2.size : Int) ∧ I64 (1 + ((ByteArray.extract s_2 (Int.toNat 0) (Int.toNat (imin (s_2.size : Int) 255))).size : Int)) ∧
    FnH Tryd.prog N_pack_own #[.slice b_1 b_1l b_1c, .int .i64 (1 + ((ByteArray.extract s_2 (Int.toNat 0) (Int.toNat (imin (s_2.size : Int) 255))).size : Int))] h fun v4 h3 =>
    ∃ (a5 : Option Addr) (a5l a5c : Nat), v4 = (.slice a5 a5l a5c) ∧ 0 ≤ ((b_1l : Nat) : Int) ∧ ((b_1l : Nat) : Int) < (a5l : Nat) ∧ ptrM a5 fun q6 =>
    HSt h3 (Addr.add q6 ((Int.toNat ((b_1l : Nat) : Int)) * 1)) [.int .u8 (IntKind.u8.wrap ((ByteArray.extract s_2 (Int.toNat 0) (Int.toNat (imin (s_2.size : Int) 255))).size : Int))] fun h7 => I64 (((b_1l : Nat) : Int) + 1) ∧
    0 ≤ (((b_1l : Nat) : Int) + 1) ∧ (((b_1l : Nat) : Int) + 1) ≤ (a5l : Int) ∧ (a5l : Int) ≤ ((a5c : Nat) : Int) ∧
    HCopy (tyOf T_uint8) h7 (subSl a5 (((b_1l : Nat) : Int) + 1) a5c 1) (Int.toNat ((a5l : Int) - (((b_1l : Nat) : Int) + 1))) (.string (ByteArray.extract s_2 (Int.toNat 0) (Int.toNat (imin (s_2.size : Int) 255)))) fun n9 h8 =>
    R (.slice a5 a5l a5c) h8
theorem F_pack_PutText.calls (b_1 : Option Addr) (b_1l b_1c : Nat) (s_2 : ByteArray) (h : Hp) (R : Value → Hp → Prop) (H : F_pack_PutText b_1 b_1l b_1c s_2 h R) : FnH Tryd.prog N_pack_PutText #[.slice b_1 b_1l b_1c, .string s_2] h R :=
  vcFn_calls [(99999, 99999)] Tryd.func82 .none [.slice b_1 b_1l b_1c, .string s_2] (Eq.mp (by unfold F_pack_PutText; kernel_rfl) H)
def F_files_All (v_1 : Option Addr) (ino_2 : Int) (h : Hp) (R : Value → Hp → Prop) : Prop :=
    FnH Tryd.prog N_files_load #[.pointer v_1, .int .u32 ino_2] h fun v4 h3 => ∃ (n5 : Int) (n6 : Int) (n7 : Int) (n8 : Int) (n9 : Int), v4 = (.tuple #[.agg #[.int .u8 n5, .int .u32 n6, .int .u32 n7, .int .u32 n8], .int .i64 n9]) ∧
    bsplit (n9 != 0)
    (R (.tuple #[.slice none 0 0, .int .i64 n9]) h3)
    (FnH Tryd.prog N_files_bytesOf #[.pointer v_1, .int .u32 ino_2, .int .i64 0, .int .i64 (IntKind.i64.wrap n7)] h3 fun v11 h10 => ∃ (a12 : Option Addr) (a12l a12c : Nat), v11 = (.slice a12 a12l a12c) ∧
    R (.tuple #[.slice a12 a12l a12c, .int .i64 0]) h10)
theorem F_files_All.calls (v_1 : Option Addr) (ino_2 : Int) (h : Hp) (R : Value → Hp → Prop) (H : F_files_All v_1 ino_2 h R) : FnH Tryd.prog N_files_All #[.pointer v_1, .int .u32 ino_2] h R :=
  vcFn_calls [(6, 6), (19, 6)] Tryd.func83 .none [.pointer v_1, .int .u32 ino_2] (Eq.mp (by unfold F_files_All; kernel_rfl) H)
def F_ark_loader_fails (l_1 : Option Addr) (e_2 : Int) (h : Hp) (R : Value → Hp → Prop) : Prop :=
    ptrM l_1 fun q3 => ∃ (n4 : Int), At h (Addr.add q3 2) [.int .i64 n4] ∧ bsplit (n4 == 0)
    (ptrM l_1 fun q5 => HSt h (Addr.add q5 2) [.int .i64 e_2] fun h6 => R (.tuple #[]) h6)
    (R (.tuple #[]) h)
theorem F_ark_loader_fails.calls (l_1 : Option Addr) (e_2 : Int) (h : Hp) (R : Value → Hp → Prop) (H : F_ark_loader_fails l_1 e_2 h R) : FnH Tryd.prog N_ark_loader_fails #[.pointer l_1, .int .i64 e_2] h R :=
  vcFn_calls [(99999, 99999)] Tryd.func84 .none [.pointer l_1, .int .i64 e_2] (Eq.mp (by unfold F_ark_loader_fails; kernel_rfl) H)
def F_ark_loader_path (l_1 : Option Addr) (h : Hp) (R : Value → Hp → Prop) : Prop :=
    ptrM l_1 fun q2 => ∃ (a3 : Option Addr) (a3l a3c : Nat), At h (Addr.add q2 0) [.slice a3 a3l a3c] ∧ ptrM l_1 fun q4 => ∃ (n5 : Int), At h (Addr.add q4 1) [.int .i64 n5] ∧
    FnH Tryd.prog N_pack_GetText #[.slice a3 a3l a3c, .int .i64 n5, .int .i64 255] h fun v7 h6 => ∃ (s8 : ByteArray) (n9 : Int) (n10 : Int), v7 = (.tuple #[.string s8, .int .i64 n9, .int .i64 n10]) ∧
    FnH Tryd.prog N_ark_loader_fails #[.pointer l_1, .int .i64 n10] h6 fun v12 h11 => v12 = (.tuple #[]) ∧ ptrM l_1 fun q13 => ∃ (n14 : Int), At h11 (Addr.add q13 2) [.int .i64 n14] ∧ bsplit (n14 != 0)
    (R (.string E0) h11)
    (ptrM l_1 fun q15 => HSt h11 (Addr.add q15 1) [.int .i64 n9] fun h16 => FnH Tryd.prog N_names_Split #[.string s8] h16 fun v18 h17 =>
    ∃ (a19 : Option Addr) (a19l a19c : Nat) (n20 : Int), v18 = (.tuple #[.slice a19 a19l a19c, .int .i64 n20]) ∧ FnH Tryd.prog N_ark_loader_fails #[.pointer l_1, .int .i64 n20] h17 fun v22 h21 => v22 = (.tuple #[]) ∧
    R (.string s8) h21)
theorem F_ark_loader_path.calls (l_1 : Option Addr) (h : Hp) (R : Value → Hp → Prop) (H : F_ark_loader_path l_1 h R) : FnH Tryd.prog N_ark_loader_path #[.pointer l_1] h R :=
  vcFn_calls [(99999, 99999)] Tryd.func85 .none [.pointer l_1] (Eq.mp (by unfold F_ark_loader_path; kernel_rfl) H)
def F_ark_loader_does (l_1 : Option Addr) (ops_2 : Option Addr) (ops_2l ops_2c : Nat) (h : Hp) (R : Value → Hp → Prop) : Prop :=
    ptrM l_1 fun q3 => ∃ (a4 : Option Addr) (a4l a4c : Nat), At h (Addr.add q3 3) [.slice a4 a4l a4c] ∧ HApp (tyOf T_api_Op) T_api_Op h a4 a4l a4c (.slice ops_2 ops_2l ops_2c) fun a6 a6l a6c h5 => ptrM l_1 fun q7 =>
    HSt h5 (Addr.add q7 3) [.slice a6 a6l a6c] fun h8 => R (.tuple #[]) h8
theorem F_ark_loader_does.calls (l_1 : Option Addr) (ops_2 : Option Addr) (ops_2l ops_2c : Nat) (h : Hp) (R : Value → Hp → Prop) (H : F_ark_loader_does l_1 ops_2 ops_2l ops_2c h R) : FnH Tryd.prog N_ark_loader_does #[.pointer l_1, .slice ops_2 ops_2l ops_2c] h R :=
  vcFn_calls [(99999, 99999)] Tryd.func86 .none [.pointer l_1, .slice ops_2 ops_2l ops_2c] (Eq.mp (by unfold F_ark_loader_does; kernel_rfl) H)
def F_ark_loader_data (l_1 : Option Addr) (h : Hp) (R : Value → Hp → Prop) : Prop :=
    ptrM l_1 fun q2 => ∃ (a3 : Option Addr) (a3l a3c : Nat), At h (Addr.add q2 0) [.slice a3 a3l a3c] ∧ ptrM l_1 fun q4 => ∃ (n5 : Int), At h (Addr.add q4 1) [.int .i64 n5] ∧
    FnH Tryd.prog N_pack_Get #[.slice a3 a3l a3c, .int .i64 n5, .int .i64 2] h fun v7 h6 => ∃ (n8 : Int) (n9 : Int) (n10 : Int), v7 = (.tuple #[.int .u64 n8, .int .i64 n9, .int .i64 n10]) ∧
    FnH Tryd.prog N_ark_loader_fails #[.pointer l_1, .int .i64 n10] h6 fun v12 h11 => v12 = (.tuple #[]) ∧ ptrM l_1 fun q13 => ∃ (n14 : Int), At h11 (Addr.add q13 2) [.int .i64 n14] ∧ bsplit (n14 != 0)
    (R (.slice none 0 0) h11)
    (bsplit (decide (n8 > 4096))
    (FnH Tryd.prog N_ark_loader_fails #[.pointer l_1, .int .i64 19] h11 fun v16 h15 => v16 = (.tuple #[]) ∧ R (.slice none 0 0) h15)
    (ptrM l_1 fun q17 => ∃ (a18 : Option Addr) (a18l a18c : Nat), At h11 (Addr.add q17 0) [.slice a18 a18l a18c] ∧ I64 (((a18l : Nat) : Int) - n9) ∧ bsplit (decide ((((a18l : Nat) : Int) - n9) < (IntKind.i64.wrap n8)))
    (FnH Tryd.prog N_ark_loader_fails #[.pointer l_1, .int .i64 3] h11 fun v20 h19 => v20 = (.tuple #[]) ∧ R (.slice none 0 0) h19)
    (I64 (n9 + (IntKind.i64.wrap n8)) ∧ ptrM l_1 fun q21 => HSt h11 (Addr.add q21 1) [.int .i64 (n9 + (IntKind.i64.wrap n8))] fun h22 => ptrM l_1 fun q23 =>
    ∃ (a24 : Option Addr) (a24l a24c : Nat), At h22 (Addr.add q23 0) [.slice a24 a24l a24c] ∧ ptrM l_1 fun q25 => ∃ (n26 : Int), At h22 (Addr.add q25 1) [.int .i64 n26] ∧ 0 ≤ n9 ∧ n9 ≤ n26 ∧ n26 ≤ ((a24c : Nat) : Int) ∧
    FnH Tryd.prog N_slices_Clone_byte_byte #[.slice (subSl a24 n9 a24c 1) (Int.toNat (n26 - n9)) (Int.toNat ((a24c : Int) - n9))] h22 fun v28 h27 => ∃ (a29 : Option Addr) (a29l a29c : Nat), v28 = (.slice a29 a29l a29c) ∧
    R (.slice a29 a29l a29c) h27)))
theorem F_ark_loader_data.calls (l_1 : Option Addr) (h : Hp) (R : Value → Hp → Prop) (H : F_ark_loader_data l_1 h R) : FnH Tryd.prog N_ark_loader_data #[.pointer l_1] h R :=
  vcFn_calls [(99999, 99999)] Tryd.func88 .none [.pointer l_1] (Eq.mp (by unfold F_ark_loader_data; kernel_rfl) H)
def F_strings_explode (s_1 : ByteArray) (n_2 : Int) (h : Hp) (R : Value → Hp → Prop) : Prop :=
    FnH Tryd.prog N_unicode_utf8_RuneCountInString #[.string s_1] h fun v4 h3 => ∃ (n5 : Int), v4 = (.int .i64 n5) ∧ ∀ J8 : Int → Hp → Prop, (∀ (n6 : Int) (h7 : Hp), (0 ≤ n6 ∧ n6 ≤ n6 ∧ (16 : Int) * n6 ≤ 281474976710656 ∧
    (16 : Nat) ≠ 0 ∧ HNew h7 (.cells (repl (Int.toNat n6) [.string E0]).toArray T_string) fun b9 h10 => ∃ Iv14 : Nat → ByteArray → Int → Hp → Prop, (∃ i15, Iv14 i15 s_1 0 h10) ∧
    ∀ (i15 : Nat) (s11 : ByteArray) (i12 : Int) (h13 : Hp), Iv14 i15 s11 i12 h13 → (I64 (n6 - 1) ∧ bsplit (decide (i12 < (n6 - 1)))
    (FnH Tryd.prog N_unicode_utf8_DecodeRuneInString #[.string s11] h13 fun v18 h17 => ∃ (n19 : Int) (n20 : Int), v18 = (.tuple #[.int .i32 n19, .int .i64 n20]) ∧ 0 ≤ (0 : Int) ∧ (0 : Int) ≤ n20 ∧ n20 ≤ (s11.size : Int) ∧ 0 ≤ i12 ∧
    i12 < (Int.toNat n6 : Nat) ∧ HSt h17 (Addr.add (⟨b9, 0, none⟩) ((Int.toNat i12) * 1)) [.string (ByteArray.extract s11 (Int.toNat 0) (Int.toNat n20))] fun h21 => 0 ≤ n20 ∧ n20 ≤ (s11.size : Int) ∧
    (s11.size : Int) ≤ (s11.size : Int) ∧ I64 (i12 + 1) ∧ ∃ k16, k16 < i15 ∧ Iv14 k16 (ByteArray.extract s11 (Int.toNat n20) (Int.toNat (s11.size : Int))) (i12 + 1) h21)
    (bsplit (decide (n6 > 0))
    (I64 (n6 - 1) ∧ 0 ≤ (n6 - 1) ∧ (n6 - 1) < (Int.toNat n6 : Nat) ∧ HSt h13 (Addr.add (⟨b9, 0, none⟩) ((Int.toNat (n6 - 1)) * 1)) [.string s11] fun h22 => R (.slice (some (⟨b9, 0, none⟩)) (Int.toNat n6) (Int.toNat n6)) h22)
    (R (.slice (some (⟨b9, 0, none⟩)) (Int.toNat n6) (Int.toNat n6)) h13)))) → J8 n6 h7) → bsplit (decide (n_2 < 0))
    (J8 n5 h3)
    (bsplit (decide (n_2 > n5))
    (J8 n5 h3)
    (J8 n_2 h3))
theorem F_strings_explode.calls (s_1 : ByteArray) (n_2 : Int) (h : Hp) (R : Value → Hp → Prop) (H : F_strings_explode s_1 n_2 h R) : FnH Tryd.prog N_strings_explode #[.string s_1, .int .i64 n_2] h R :=
  vcFn_calls [(99999, 99999)] Tryd.func89 (.seq .none (.seq .none (.join ⟨[0], [], [(1, false, [.int .i64])], []⟩ .none (.seq .none (.seq (.seq .none (.block (.loop ⟨[1, 6], [], [(0, false, [.str]), (7, false, [.int .i64])], []⟩ .none))) .none))))) [.string s_1, .int .i64 n_2] (Eq.mp (by unfold F_strings_explode; kernel_rfl) H)
def F_strings_Count (s_1 : ByteArray) (substr_2 : ByteArray) (h : Hp) (R : Value → Hp → Prop) : Prop :=
    bsplit ((substr_2.size : Int) == 0)
    (FnH Tryd.prog N_unicode_utf8_RuneCountInString #[.string s_1] h fun v4 h3 => ∃ (n5 : Int), v4 = (.int .i64 n5) ∧ I64 (n5 + 1) ∧ R (.int .i64 (n5 + 1)) h3)
    (bsplit ((substr_2.size : Int) == 1)
    (0 ≤ (0 : Int) ∧ (0 : Int) < (substr_2.size : Nat) ∧ R (.int .i64 (cntB s_1 (byteAt substr_2 0))) h)
    (∃ Iv9 : Nat → ByteArray → Int → Hp → Prop, (∃ i10, Iv9 i10 s_1 0 h) ∧ ∀ (i10 : Nat) (s6 : ByteArray) (n7 : Int) (h8 : Hp), Iv9 i10 s6 n7 h8 → (FnH Tryd.prog N_strings_Index #[.string s6, .string substr_2] h8 fun v13 h12 =>
    ∃ (n14 : Int), v13 = (.int .i64 n14) ∧ bsplit (n14 == (-1))
    (R (.int .i64 n7) h12)
    (I64 (n7 + 1) ∧ I64 (n14 + (substr_2.size : Int)) ∧ 0 ≤ (n14 + (substr_2.size : Int)) ∧ (n14 + (substr_2.size : Int)) ≤ (s6.size : Int) ∧ (s6.size : Int) ≤ (s6.size : Int) ∧ ∃ k11, k11 < i10 ∧
    Iv9 k11 (ByteArray.extract s6 (Int.toNat (n14 + (substr_2.size : Int))) (Int.toNat (s6.size : Int))) (n7 + 1) h12))))
theorem F_strings_Count.calls (s_1 : ByteArray) (substr_2 : ByteArray) (h : Hp) (R : Value → Hp → Prop) (H : F_strings_Count s_1 substr_2 h R) : FnH Tryd.prog N_strings_Count #[.string s_1, .string substr_2] h R :=
  vcFn_calls [(99999, 99999)] Tryd.func90 (.seq .none (.seq .none (.seq .none (.seq .none (.block (.loop ⟨[1], [], [(0, false, [.str]), (5, false, [.int .i64])], []⟩ .none)))))) [.string s_1, .string substr_2] (Eq.mp (by unfold F_strings_Count; kernel_rfl) H)
def F_strings_Index (s_1 : ByteArray) (substr_2 : ByteArray) (h : Hp) (R : Value → Hp → Prop) : Prop :=
    FnH Tryd.prog N_internal_stringslite_Index #[.string s_1, .string substr_2] h fun v4 h3 => ∃ (n5 : Int), v4 = (.int .i64 n5) ∧ R (.int .i64 n5) h3
theorem F_strings_Index.calls (s_1 : ByteArray) (substr_2 : ByteArray) (h : Hp) (R : Value → Hp → Prop) (H : F_strings_Index s_1 substr_2 h R) : FnH Tryd.prog N_strings_Index #[.string s_1, .string substr_2] h R :=
  vcFn_calls [(99999, 99999)] Tryd.func91 .none [.string s_1, .string substr_2] (Eq.mp (by unfold F_strings_Index; kernel_rfl) H)
def F_slices_IndexFunc_string_string (s_1 : Option Addr) (s_1l s_1c : Nat) (f_2 : Fn) (f_2a f_2b : Array Value) (h : Hp) (R : Value → Hp → Prop) : Prop :=
    ∃ Iv5 : Nat → Int → Hp → Prop, (∃ i6, Iv5 i6 0 h) ∧ ∀ (i6 : Nat) (n3 : Int) (h4 : Hp), Iv5 i6 n3 h4 → (bsplit (decide (n3 < ((s_1l : Nat) : Int)))
    (0 ≤ n3 ∧ n3 < (s_1l : Nat) ∧ ptrM s_1 fun q8 => ∃ (s9 : ByteArray), At h4 (Addr.add q8 ((Int.toNat n3) * 1)) [.string s9] ∧ fnM f_2 fun f10 =>
    fnsM fnsOk f10 <| FnH Tryd.prog f10 (f_2a.toList ++ ([.string s9] : List Value) ++ f_2b.toList).toArray h4 fun v12 h11 => ∃ (b13 : Bool), v12 = (.bool b13) ∧ bsplit b13
    (R (.int .i64 n3) h11)
    (I64 (n3 + 1) ∧ ∃ k7, k7 < i6 ∧ Iv5 k7 (n3 + 1) h11))
    (R (.int .i64 (-1)) h4))
theorem F_slices_IndexFunc_string_string.calls (s_1 : Option Addr) (s_1l s_1c : Nat) (f_2 : Fn) (f_2a f_2b : Array Value) (h : Hp) (R : Value → Hp → Prop) (H : F_slices_IndexFunc_string_string s_1 s_1l s_1c f_2 f_2a f_2b h R) : FnH Tryd.prog N_slices_IndexFunc_string_string #[.slice s_1 s_1l s_1c, .func f_2 f_2a f_2b] h R :=
  vcFn_calls [(99999, 99999)] Tryd.func92 (.seq .none (.seq (.seq .none (.block (.loop ⟨[0, 1, 7], [], [(8, false, [.int .i64])], []⟩ .none))) .none)) [.slice s_1 s_1l s_1c, .func f_2 f_2a f_2b] (Eq.mp (by unfold F_slices_IndexFunc_string_string; kernel_rfl) H)
def F_files_load (v_1 : Option Addr) (ino_2 : Int) (h : Hp) (R : Value → Hp → Prop) : Prop :=
    FnH Tryd.prog N_walk_Load #[.pointer v_1, .int .u32 ino_2] h fun v4 h3 => ∃ (n5 : Int) (n6 : Int) (n7 : Int) (n8 : Int) (b9 : Bool), v4 = (.tuple #[.agg #[.int .u8 n5, .int .u32 n6, .int .u32 n7, .int .u32 n8], .bool b9]) ∧
    bsplit (!b9)
    (R (.tuple #[.agg #[.int .u8 0, .int .u32 0, .int .u32 0, .int .u32 0], .int .i64 16]) h3)
    (bsplit (n5 != 1)
    (R (.tuple #[.agg #[.int .u8 0, .int .u32 0, .int .u32 0, .int .u32 0], .int .i64 16]) h3)
    (R (.tuple #[.agg #[.int .u8 n5, .int .u32 n6, .int .u32 n7, .int .u32 n8], .int .i64 0]) h3))
theorem F_files_load.calls (v_1 : Option Addr) (ino_2 : Int) (h : Hp) (R : Value → Hp → Prop) (H : F_files_load v_1 ino_2 h R) : FnH Tryd.prog N_files_load #[.pointer v_1, .int .u32 ino_2] h R :=
  vcFn_calls [(4, 4), (6, 6), (17, 6)] Tryd.func93 .none [.pointer v_1, .int .u32 ino_2] (Eq.mp (by unfold F_files_load; kernel_rfl) H)
def F_files_bytesOf (v_1 : Option Addr) (ino_2 : Int) (from_3 : Int) (n_4 : Int) (h : Hp) (R : Value → Hp → Prop) : Prop :=
    FnH Tryd.prog N_node_Cut #[.int .i64 from_3, .int .i64 n_4] h fun v6 h5 => ∃ (a7 : Option Addr) (a7l a7c : Nat), v6 = (.slice a7 a7l a7c) ∧ ∃ Iv11 : Nat → Option Addr → Nat → Nat → Int → Hp →
    Prop, (∃ i12, Iv11 i12 none 0 0 0 h5) ∧ ∀ (i12 : Nat) (out8 : Option Addr) (out8l out8c : Nat) (n9 : Int) (h10 : Hp), Iv11 i12 out8 out8l out8c n9 h10 → (bsplit (decide (n9 < ((a7l : Nat) : Int)))
    (0 ≤ n9 ∧ n9 < (a7l : Nat) ∧ ptrM a7 fun q14 => ∃ (n15 : Int) (n16 : Int) (n17 : Int), At h10 (Addr.add q14 ((Int.toNat n9) * 3)) [.int .i64 n15, .int .i64 n16, .int .i64 n17] ∧
    HNew h10 (.cells #[.int .i64 0, .int .i64 0, .int .i64 0] T_a3_int) fun b18 h19 => HSt h19 (⟨b18, 0, none⟩) [.int .i64 n15, .int .i64 n16, .int .i64 n17] fun h20 => ∃ S21 : Hp → Prop, S21 h20 ∧ 0 ≤ (0 : Int) ∧
    (0 : Int) < (3 : Nat) ∧ ∃ (n22 : Int), (∀ g, S21 g → At g (Addr.add (⟨b18, 0, none⟩) ((Int.toNat 0) * 1)) [.int .i64 n22]) ∧ FnH Tryd.prog N_files_block #[.pointer v_1, .int .u32 ino_2, .int .i64 n22] h20 fun v24 h23 =>
    ∃ (a25 : Option Addr) (a25l a25c : Nat), v24 = (.slice a25 a25l a25c) ∧ S21 h23 ∧ 0 ≤ (1 : Int) ∧ (1 : Int) < (3 : Nat) ∧ ∃ (n26 : Int), (∀ g, S21 g → At g (Addr.add (⟨b18, 0, none⟩) ((Int.toNat 1) * 1)) [.int .i64 n26]) ∧
    0 ≤ (1 : Int) ∧ (1 : Int) < (3 : Nat) ∧ ∃ (n27 : Int), (∀ g, S21 g → At g (Addr.add (⟨b18, 0, none⟩) ((Int.toNat 1) * 1)) [.int .i64 n27]) ∧ 0 ≤ (2 : Int) ∧ (2 : Int) < (3 : Nat) ∧ ∃ (n28 : Int), (∀ g, S21 g →
    At g (Addr.add (⟨b18, 0, none⟩) ((Int.toNat 2) * 1)) [.int .i64 n28]) ∧ I64 (n27 + n28) ∧ 0 ≤ n26 ∧ n26 ≤ (n27 + n28) ∧ (n27 + n28) ≤ ((a25c : Nat) : Int) ∧
    HApp (tyOf T_uint8) T_uint8 h23 out8 out8l out8c (.slice (subSl a25 n26 a25c 1) (Int.toNat (n27 + n28 - n26)) (Int.toNat ((a25c : Int) - n26))) fun a30 a30l a30c h29 => I64 (n9 + 1) ∧ ∃ k13, k13 < i12 ∧
    Iv11 k13 a30 a30l a30c (n9 + 1) h29)
    (R (.slice out8 out8l out8c) h10))
theorem F_files_bytesOf.calls (v_1 : Option Addr) (ino_2 : Int) (from_3 : Int) (n_4 : Int) (h : Hp) (R : Value → Hp → Prop) (H : F_files_bytesOf v_1 ino_2 from_3 n_4 h R) : FnH Tryd.prog N_files_bytesOf #[.pointer v_1, .int .u32 ino_2, .int .i64 from_3, .int .i64 n_4] h R :=
  vcFn_calls [(99999, 99999)] Tryd.func94 (.seq .none (.seq .none (.seq (.seq .none (.block (.loop ⟨[0, 1, 14, 15], [], [(9, false, [.slice]), (16, false, [.int .i64])], []⟩ .none))) .none))) [.pointer v_1, .int .u32 ino_2, .int .i64 from_3, .int .i64 n_4] (Eq.mp (by unfold F_files_bytesOf; kernel_rfl) H)
def F_pack_GetText (b_1 : Option Addr) (b_1l b_1c : Nat) (at_2 : Int) (most_3 : Int) (h : Hp) (R : Value → Hp → Prop) : Prop :=
    FnH Tryd.prog N_pack_Get #[.slice b_1 b_1l b_1c, .int .i64 at_2, .int .i64 1] h fun v5 h4 => ∃ (n6 : Int) (n7 : Int) (n8 : Int), v5 = (.tuple #[.int .u64 n6, .int .i64 n7, .int .i64 n8]) ∧ bsplit (n8 != 0)
    (R (.tuple #[.string E0, .int .i64 0, .int .i64 n8]) h4)
    (bsplit (decide ((IntKind.i64.wrap n6) > most_3))
    (R (.tuple #[.string E0, .int .i64 0, .int .i64 4]) h4)
    (I64 (((b_1l : Nat) : Int) - n7) ∧ bsplit (decide ((((b_1l : Nat) : Int) - n7) < (IntKind.i64.wrap n6)))
    (R (.tuple #[.string E0, .int .i64 0, .int .i64 3]) h4)
    (I64 (n7 + (IntKind.i64.wrap n6)) ∧ 0 ≤ n7 ∧ n7 ≤ (n7 + (IntKind.i64.wrap n6)) ∧ (n7 + (IntKind.i64.wrap n6)) ≤ ((b_1c : Nat) : Int) ∧
    ∃ s9 : ByteArray, Bytes h4 (subSl b_1 n7 b_1c 1) (Int.toNat (n7 + (IntKind.i64.wrap n6) - n7)) s9 ∧ R (.tuple #[.string s9, .int .i64 (n7 + (IntKind.i64.wrap n6)), .int .i64 0]) h4)))
theorem F_pack_GetText.calls (b_1 : Option Addr) (b_1l b_1c : Nat) (at_2 : Int) (most_3 : Int) (h : Hp) (R : Value → Hp → Prop) (H : F_pack_GetText b_1 b_1l b_1c at_2 most_3 h R) : FnH Tryd.prog N_pack_GetText #[.slice b_1 b_1l b_1c, .int .i64 at_2, .int .i64 most_3] h R :=
  vcFn_calls [(99999, 99999)] Tryd.func95 .none [.slice b_1 b_1l b_1c, .int .i64 at_2, .int .i64 most_3] (Eq.mp (by unfold F_pack_GetText; kernel_rfl) H)
def F_slices_Clone_byte_byte (s_1 : Option Addr) (s_1l s_1c : Nat) (h : Hp) (R : Value → Hp → Prop) : Prop :=
    bsplit s_1.isNone
    (R (.slice none 0 0) h)
    (HNew h (.cells #[] T_uint8) fun b2 h3 => HApp (tyOf T_uint8) T_uint8 h3 (some (⟨b2, 0, none⟩)) 0 0 (.slice s_1 s_1l s_1c) fun a5 a5l a5c h4 => R (.slice a5 a5l a5c) h4)
theorem F_slices_Clone_byte_byte.calls (s_1 : Option Addr) (s_1l s_1c : Nat) (h : Hp) (R : Value → Hp → Prop) (H : F_slices_Clone_byte_byte s_1 s_1l s_1c h R) : FnH Tryd.prog N_slices_Clone_byte_byte #[.slice s_1 s_1l s_1c] h R :=
  vcFn_calls [(99999, 99999)] Tryd.func97 .none [.slice s_1 s_1l s_1c] (Eq.mp (by unfold F_slices_Clone_byte_byte; kernel_rfl) H)
def F_unicode_utf8_RuneCountInString (s_1 : ByteArray) (h : Hp) (R : Value → Hp → Prop) : Prop :=
    HNew h (.stringIter s_1 0) fun b2 h3 => ∃ Iv6 : Nat → Int → Hp → Prop, (∃ i7, Iv6 i7 0 h3) ∧ ∀ (i7 : Nat) (n4 : Int) (h5 : Hp), Iv6 i7 n4 h5 → (HNext h5 b2 (fun i9 c10 h11 => I64 (n4 + 1) ∧ ∃ k8, k8 < i7 ∧
    Iv6 k8 (n4 + 1) h11) (fun h12 => R (.int .i64 n4) h12))
theorem F_unicode_utf8_RuneCountInString.calls (s_1 : ByteArray) (h : Hp) (R : Value → Hp → Prop) (H : F_unicode_utf8_RuneCountInString s_1 h R) : FnH Tryd.prog N_unicode_utf8_RuneCountInString #[.string s_1] h R :=
  vcFn_calls [(99999, 99999)] Tryd.func98 (.seq .none (.seq (.seq .none (.block (.loop ⟨[4], [], [(2, false, [.int .i64])], []⟩ .none))) .none)) [.string s_1] (Eq.mp (by unfold F_unicode_utf8_RuneCountInString; kernel_rfl) H)
def F_unicode_utf8_DecodeRuneInString (s_1 : ByteArray) (h : Hp) (R : Value → Hp → Prop) : Prop :=
    bsplit (!decide (s_1 = E0))
    (0 ≤ (0 : Int) ∧ (0 : Int) < (s_1.size : Nat) ∧ bsplit (decide ((byteAt s_1 0) < 128))
    (0 ≤ (0 : Int) ∧ (0 : Int) < (s_1.size : Nat) ∧ R (.tuple #[.int .i32 (IntKind.i32.wrap (byteAt s_1 0)), .int .i64 1]) h)
    (FnH Tryd.prog N_unicode_utf8_decodeRuneInStringSlow #[.string s_1] h fun v3 h2 => ∃ (n4 : Int) (n5 : Int), v3 = (.tuple #[.int .i32 n4, .int .i64 n5]) ∧ R (.tuple #[.int .i32 n4, .int .i64 n5]) h2))
    (FnH Tryd.prog N_unicode_utf8_decodeRuneInStringSlow #[.string s_1] h fun v7 h6 => ∃ (n8 : Int) (n9 : Int), v7 = (.tuple #[.int .i32 n8, .int .i64 n9]) ∧ R (.tuple #[.int .i32 n8, .int .i64 n9]) h6)
theorem F_unicode_utf8_DecodeRuneInString.calls (s_1 : ByteArray) (h : Hp) (R : Value → Hp → Prop) (H : F_unicode_utf8_DecodeRuneInString s_1 h R) : FnH Tryd.prog N_unicode_utf8_DecodeRuneInString #[.string s_1] h R :=
  vcFn_calls [(99999, 99999)] Tryd.func99 .none [.string s_1] (Eq.mp (by unfold F_unicode_utf8_DecodeRuneInString; kernel_rfl) H)
def F_internal_stringslite_Index (s1 : ByteArray) (s2 : ByteArray) (h : Hp) (R : Value → Hp → Prop) : Prop :=
    bsplit ((s2.size : Int) == 0)
    (R (.int .i64 0) h)
    (bsplit (decide (s2 = s1))
    (R (.int .i64 0) h)
    (bsplit ((s2.size : Int) == 1)
    (0 ≤ (0 : Int) ∧ (0 : Int) < (s2.size : Nat) ∧ FnH Tryd.prog N_internal_stringslite_IndexByte #[.string s1, .int .u8 (byteAt s2 0)] h fun v4 h3 => ∃ (n5 : Int), v4 = (.int .i64 n5) ∧ R (.int .i64 n5) h3)
    (bsplit (decide ((s2.size : Int) ≥ (s1.size : Int)))
    (R (.int .i64 (-1)) h)
    (∃ (n6 : Int), At h (⟨0, 0, none⟩) [.int .i64 n6] ∧ bsplit (decide ((s2.size : Int) ≤ n6))
    (bsplit (decide ((s1.size : Int) ≤ 64))
    (False)
    (0 ≤ (0 : Int) ∧ (0 : Int) < (s2.size : Nat) ∧ 0 ≤ (1 : Int) ∧ (1 : Int) < (s2.size : Nat) ∧ I64 ((s1.size : Int) - (s2.size : Int)) ∧ I64 (((s1.size : Int) - (s2.size : Int)) + 1) ∧ ∃ Iv10 : Nat → Int → Int → Hp →
    Prop, (∃ i11, Iv10 i11 0 0 h) ∧ ∀ (i11 : Nat) (n7 : Int) (n8 : Int) (h9 : Hp), Iv10 i11 n7 n8 h9 → (bsplit (decide (n7 < (((s1.size : Int) - (s2.size : Int)) + 1)))
    (∀ J15 : Int → Hp → Prop, (∀ (n13 : Int) (h14 : Hp), (I64 (n13 + 1) ∧ 0 ≤ (n13 + 1) ∧ (n13 + 1) < (s1.size : Nat) ∧ bsplit ((byteAt s1 (n13 + 1)) == (byteAt s2 1))
    (I64 (n13 + (s2.size : Int)) ∧ 0 ≤ n13 ∧ n13 ≤ (n13 + (s2.size : Int)) ∧ (n13 + (s2.size : Int)) ≤ (s1.size : Int) ∧ bsplit (decide ((ByteArray.extract s1 (Int.toNat n13) (Int.toNat (n13 + (s2.size : Int)))) = s2))
    (R (.int .i64 n13) h14)
    (I64 (n13 + 1) ∧ I64 (n8 + 1) ∧ ∃ (n16 : Int), At h14 (⟨0, 0, none⟩) [.int .i64 n16] ∧ bsplit (decide ((s2.size : Int) ≤ n16))
    (FnH Tryd.prog N_internal_bytealg_Cutover #[.int .i64 (n13 + 1)] h14 fun v18 h17 => ∃ (n19 : Int), v18 = (.int .i64 n19) ∧ bsplit (decide ((n8 + 1) > n19))
    (0 ≤ (n13 + 1) ∧ (n13 + 1) ≤ (s1.size : Int) ∧ (s1.size : Int) ≤ (s1.size : Int) ∧ False)
    (∃ (n20 : Int), At h17 (⟨0, 0, none⟩) [.int .i64 n20] ∧ bsplit (decide ((s2.size : Int) > n20))
    (0 ≤ (4 : Int) ∧ I64 (4 + (Int.fdiv (n13 + 1) (2 ^ (min (Int.toNat 4) 64)))) ∧ bsplit (decide ((n8 + 1) ≥ (4 + (Int.fdiv (n13 + 1) (2 ^ (min (Int.toNat 4) 64))))))
    (bsplit (decide ((n13 + 1) < (((s1.size : Int) - (s2.size : Int)) + 1)))
    (0 ≤ (n13 + 1) ∧ (n13 + 1) ≤ (s1.size : Int) ∧ (s1.size : Int) ≤ (s1.size : Int) ∧
    FnH Tryd.prog N_internal_bytealg_IndexRabinKarp_string #[.string (ByteArray.extract s1 (Int.toNat (n13 + 1)) (Int.toNat (s1.size : Int))), .string s2] h17 fun v22 h21 => ∃ (n23 : Int), v22 = (.int .i64 n23) ∧
    bsplit (decide (n23 < 0))
    (R (.int .i64 (-1)) h21)
    (I64 ((n13 + 1) + n23) ∧ R (.int .i64 ((n13 + 1) + n23)) h21))
    (∃ k12, k12 < i11 ∧ Iv10 k12 (n13 + 1) (n8 + 1) h17))
    (∃ k12, k12 < i11 ∧ Iv10 k12 (n13 + 1) (n8 + 1) h17))
    (∃ k12, k12 < i11 ∧ Iv10 k12 (n13 + 1) (n8 + 1) h17)))
    (∃ (n24 : Int), At h14 (⟨0, 0, none⟩) [.int .i64 n24] ∧ bsplit (decide ((s2.size : Int) > n24))
    (0 ≤ (4 : Int) ∧ I64 (4 + (Int.fdiv (n13 + 1) (2 ^ (min (Int.toNat 4) 64)))) ∧ bsplit (decide ((n8 + 1) ≥ (4 + (Int.fdiv (n13 + 1) (2 ^ (min (Int.toNat 4) 64))))))
    (bsplit (decide ((n13 + 1) < (((s1.size : Int) - (s2.size : Int)) + 1)))
    (0 ≤ (n13 + 1) ∧ (n13 + 1) ≤ (s1.size : Int) ∧ (s1.size : Int) ≤ (s1.size : Int) ∧
    FnH Tryd.prog N_internal_bytealg_IndexRabinKarp_string #[.string (ByteArray.extract s1 (Int.toNat (n13 + 1)) (Int.toNat (s1.size : Int))), .string s2] h14 fun v26 h25 => ∃ (n27 : Int), v26 = (.int .i64 n27) ∧
    bsplit (decide (n27 < 0))
    (R (.int .i64 (-1)) h25)
    (I64 ((n13 + 1) + n27) ∧ R (.int .i64 ((n13 + 1) + n27)) h25))
    (∃ k12, k12 < i11 ∧ Iv10 k12 (n13 + 1) (n8 + 1) h14))
    (∃ k12, k12 < i11 ∧ Iv10 k12 (n13 + 1) (n8 + 1) h14))
    (∃ k12, k12 < i11 ∧ Iv10 k12 (n13 + 1) (n8 + 1) h14))))
    (I64 (n13 + 1) ∧ I64 (n8 + 1) ∧ ∃ (n28 : Int), At h14 (⟨0, 0, none⟩) [.int .i64 n28] ∧ bsplit (decide ((s2.size : Int) ≤ n28))
    (FnH Tryd.prog N_internal_bytealg_Cutover #[.int .i64 (n13 + 1)] h14 fun v30 h29 => ∃ (n31 : Int), v30 = (.int .i64 n31) ∧ bsplit (decide ((n8 + 1) > n31))
    (0 ≤ (n13 + 1) ∧ (n13 + 1) ≤ (s1.size : Int) ∧ (s1.size : Int) ≤ (s1.size : Int) ∧ False)
    (∃ (n32 : Int), At h29 (⟨0, 0, none⟩) [.int .i64 n32] ∧ bsplit (decide ((s2.size : Int) > n32))
    (0 ≤ (4 : Int) ∧ I64 (4 + (Int.fdiv (n13 + 1) (2 ^ (min (Int.toNat 4) 64)))) ∧ bsplit (decide ((n8 + 1) ≥ (4 + (Int.fdiv (n13 + 1) (2 ^ (min (Int.toNat 4) 64))))))
    (bsplit (decide ((n13 + 1) < (((s1.size : Int) - (s2.size : Int)) + 1)))
    (0 ≤ (n13 + 1) ∧ (n13 + 1) ≤ (s1.size : Int) ∧ (s1.size : Int) ≤ (s1.size : Int) ∧
    FnH Tryd.prog N_internal_bytealg_IndexRabinKarp_string #[.string (ByteArray.extract s1 (Int.toNat (n13 + 1)) (Int.toNat (s1.size : Int))), .string s2] h29 fun v34 h33 => ∃ (n35 : Int), v34 = (.int .i64 n35) ∧
    bsplit (decide (n35 < 0))
    (R (.int .i64 (-1)) h33)
    (I64 ((n13 + 1) + n35) ∧ R (.int .i64 ((n13 + 1) + n35)) h33))
    (∃ k12, k12 < i11 ∧ Iv10 k12 (n13 + 1) (n8 + 1) h29))
    (∃ k12, k12 < i11 ∧ Iv10 k12 (n13 + 1) (n8 + 1) h29))
    (∃ k12, k12 < i11 ∧ Iv10 k12 (n13 + 1) (n8 + 1) h29)))
    (∃ (n36 : Int), At h14 (⟨0, 0, none⟩) [.int .i64 n36] ∧ bsplit (decide ((s2.size : Int) > n36))
    (0 ≤ (4 : Int) ∧ I64 (4 + (Int.fdiv (n13 + 1) (2 ^ (min (Int.toNat 4) 64)))) ∧ bsplit (decide ((n8 + 1) ≥ (4 + (Int.fdiv (n13 + 1) (2 ^ (min (Int.toNat 4) 64))))))
    (bsplit (decide ((n13 + 1) < (((s1.size : Int) - (s2.size : Int)) + 1)))
    (0 ≤ (n13 + 1) ∧ (n13 + 1) ≤ (s1.size : Int) ∧ (s1.size : Int) ≤ (s1.size : Int) ∧
    FnH Tryd.prog N_internal_bytealg_IndexRabinKarp_string #[.string (ByteArray.extract s1 (Int.toNat (n13 + 1)) (Int.toNat (s1.size : Int))), .string s2] h14 fun v38 h37 => ∃ (n39 : Int), v38 = (.int .i64 n39) ∧
    bsplit (decide (n39 < 0))
    (R (.int .i64 (-1)) h37)
    (I64 ((n13 + 1) + n39) ∧ R (.int .i64 ((n13 + 1) + n39)) h37))
    (∃ k12, k12 < i11 ∧ Iv10 k12 (n13 + 1) (n8 + 1) h14))
    (∃ k12, k12 < i11 ∧ Iv10 k12 (n13 + 1) (n8 + 1) h14))
    (∃ k12, k12 < i11 ∧ Iv10 k12 (n13 + 1) (n8 + 1) h14)))) → J15 n13 h14) → 0 ≤ n7 ∧ n7 < (s1.size : Nat) ∧ bsplit ((byteAt s1 n7) != (byteAt s2 0))
    (I64 (n7 + 1) ∧ 0 ≤ (n7 + 1) ∧ (n7 + 1) ≤ (((s1.size : Int) - (s2.size : Int)) + 1) ∧ (((s1.size : Int) - (s2.size : Int)) + 1) ≤ (s1.size : Int) ∧
    FnH Tryd.prog N_internal_stringslite_IndexByte #[.string (ByteArray.extract s1 (Int.toNat (n7 + 1)) (Int.toNat (((s1.size : Int) - (s2.size : Int)) + 1))), .int .u8 (byteAt s2 0)] h9 fun v41 h40 =>
    ∃ (n42 : Int), v41 = (.int .i64 n42) ∧ bsplit (decide (n42 < 0))
    (R (.int .i64 (-1)) h40)
    (I64 (n42 + 1) ∧ I64 (n7 + (n42 + 1)) ∧ J15 (n7 + (n42 + 1)) h40))
    (J15 n7 h9))
    (R (.int .i64 (-1)) h9))))
    (0 ≤ (0 : Int) ∧ (0 : Int) < (s2.size : Nat) ∧ 0 ≤ (1 : Int) ∧ (1 : Int) < (s2.size : Nat) ∧ I64 ((s1.size : Int) - (s2.size : Int)) ∧ I64 (((s1.size : Int) - (s2.size : Int)) + 1) ∧ ∃ Iv46 : Nat → Int → Int → Hp →
    Prop, (∃ i47, Iv46 i47 0 0 h) ∧ ∀ (i47 : Nat) (n43 : Int) (n44 : Int) (h45 : Hp), Iv46 i47 n43 n44 h45 → (bsplit (decide (n43 < (((s1.size : Int) - (s2.size : Int)) + 1)))
    (∀ J51 : Int → Hp → Prop, (∀ (n49 : Int) (h50 : Hp), (I64 (n49 + 1) ∧ 0 ≤ (n49 + 1) ∧ (n49 + 1) < (s1.size : Nat) ∧ bsplit ((byteAt s1 (n49 + 1)) == (byteAt s2 1))
    (I64 (n49 + (s2.size : Int)) ∧ 0 ≤ n49 ∧ n49 ≤ (n49 + (s2.size : Int)) ∧ (n49 + (s2.size : Int)) ≤ (s1.size : Int) ∧ bsplit (decide ((ByteArray.extract s1 (Int.toNat n49) (Int.toNat (n49 + (s2.size : Int)))) = s2))
    (R (.int .i64 n49) h50)
    (I64 (n49 + 1) ∧ I64 (n44 + 1) ∧ ∃ (n52 : Int), At h50 (⟨0, 0, none⟩) [.int .i64 n52] ∧ bsplit (decide ((s2.size : Int) ≤ n52))
    (FnH Tryd.prog N_internal_bytealg_Cutover #[.int .i64 (n49 + 1)] h50 fun v54 h53 => ∃ (n55 : Int), v54 = (.int .i64 n55) ∧ bsplit (decide ((n44 + 1) > n55))
    (0 ≤ (n49 + 1) ∧ (n49 + 1) ≤ (s1.size : Int) ∧ (s1.size : Int) ≤ (s1.size : Int) ∧ False)
    (∃ (n56 : Int), At h53 (⟨0, 0, none⟩) [.int .i64 n56] ∧ bsplit (decide ((s2.size : Int) > n56))
    (0 ≤ (4 : Int) ∧ I64 (4 + (Int.fdiv (n49 + 1) (2 ^ (min (Int.toNat 4) 64)))) ∧ bsplit (decide ((n44 + 1) ≥ (4 + (Int.fdiv (n49 + 1) (2 ^ (min (Int.toNat 4) 64))))))
    (bsplit (decide ((n49 + 1) < (((s1.size : Int) - (s2.size : Int)) + 1)))
    (0 ≤ (n49 + 1) ∧ (n49 + 1) ≤ (s1.size : Int) ∧ (s1.size : Int) ≤ (s1.size : Int) ∧
    FnH Tryd.prog N_internal_bytealg_IndexRabinKarp_string #[.string (ByteArray.extract s1 (Int.toNat (n49 + 1)) (Int.toNat (s1.size : Int))), .string s2] h53 fun v58 h57 => ∃ (n59 : Int), v58 = (.int .i64 n59) ∧
    bsplit (decide (n59 < 0))
    (R (.int .i64 (-1)) h57)
    (I64 ((n49 + 1) + n59) ∧ R (.int .i64 ((n49 + 1) + n59)) h57))
    (∃ k48, k48 < i47 ∧ Iv46 k48 (n49 + 1) (n44 + 1) h53))
    (∃ k48, k48 < i47 ∧ Iv46 k48 (n49 + 1) (n44 + 1) h53))
    (∃ k48, k48 < i47 ∧ Iv46 k48 (n49 + 1) (n44 + 1) h53)))
    (∃ (n60 : Int), At h50 (⟨0, 0, none⟩) [.int .i64 n60] ∧ bsplit (decide ((s2.size : Int) > n60))
    (0 ≤ (4 : Int) ∧ I64 (4 + (Int.fdiv (n49 + 1) (2 ^ (min (Int.toNat 4) 64)))) ∧ bsplit (decide ((n44 + 1) ≥ (4 + (Int.fdiv (n49 + 1) (2 ^ (min (Int.toNat 4) 64))))))
    (bsplit (decide ((n49 + 1) < (((s1.size : Int) - (s2.size : Int)) + 1)))
    (0 ≤ (n49 + 1) ∧ (n49 + 1) ≤ (s1.size : Int) ∧ (s1.size : Int) ≤ (s1.size : Int) ∧
    FnH Tryd.prog N_internal_bytealg_IndexRabinKarp_string #[.string (ByteArray.extract s1 (Int.toNat (n49 + 1)) (Int.toNat (s1.size : Int))), .string s2] h50 fun v62 h61 => ∃ (n63 : Int), v62 = (.int .i64 n63) ∧
    bsplit (decide (n63 < 0))
    (R (.int .i64 (-1)) h61)
    (I64 ((n49 + 1) + n63) ∧ R (.int .i64 ((n49 + 1) + n63)) h61))
    (∃ k48, k48 < i47 ∧ Iv46 k48 (n49 + 1) (n44 + 1) h50))
    (∃ k48, k48 < i47 ∧ Iv46 k48 (n49 + 1) (n44 + 1) h50))
    (∃ k48, k48 < i47 ∧ Iv46 k48 (n49 + 1) (n44 + 1) h50))))
    (I64 (n49 + 1) ∧ I64 (n44 + 1) ∧ ∃ (n64 : Int), At h50 (⟨0, 0, none⟩) [.int .i64 n64] ∧ bsplit (decide ((s2.size : Int) ≤ n64))
    (FnH Tryd.prog N_internal_bytealg_Cutover #[.int .i64 (n49 + 1)] h50 fun v66 h65 => ∃ (n67 : Int), v66 = (.int .i64 n67) ∧ bsplit (decide ((n44 + 1) > n67))
    (0 ≤ (n49 + 1) ∧ (n49 + 1) ≤ (s1.size : Int) ∧ (s1.size : Int) ≤ (s1.size : Int) ∧ False)
    (∃ (n68 : Int), At h65 (⟨0, 0, none⟩) [.int .i64 n68] ∧ bsplit (decide ((s2.size : Int) > n68))
    (0 ≤ (4 : Int) ∧ I64 (4 + (Int.fdiv (n49 + 1) (2 ^ (min (Int.toNat 4) 64)))) ∧ bsplit (decide ((n44 + 1) ≥ (4 + (Int.fdiv (n49 + 1) (2 ^ (min (Int.toNat 4) 64))))))
    (bsplit (decide ((n49 + 1) < (((s1.size : Int) - (s2.size : Int)) + 1)))
    (0 ≤ (n49 + 1) ∧ (n49 + 1) ≤ (s1.size : Int) ∧ (s1.size : Int) ≤ (s1.size : Int) ∧
    FnH Tryd.prog N_internal_bytealg_IndexRabinKarp_string #[.string (ByteArray.extract s1 (Int.toNat (n49 + 1)) (Int.toNat (s1.size : Int))), .string s2] h65 fun v70 h69 => ∃ (n71 : Int), v70 = (.int .i64 n71) ∧
    bsplit (decide (n71 < 0))
    (R (.int .i64 (-1)) h69)
    (I64 ((n49 + 1) + n71) ∧ R (.int .i64 ((n49 + 1) + n71)) h69))
    (∃ k48, k48 < i47 ∧ Iv46 k48 (n49 + 1) (n44 + 1) h65))
    (∃ k48, k48 < i47 ∧ Iv46 k48 (n49 + 1) (n44 + 1) h65))
    (∃ k48, k48 < i47 ∧ Iv46 k48 (n49 + 1) (n44 + 1) h65)))
    (∃ (n72 : Int), At h50 (⟨0, 0, none⟩) [.int .i64 n72] ∧ bsplit (decide ((s2.size : Int) > n72))
    (0 ≤ (4 : Int) ∧ I64 (4 + (Int.fdiv (n49 + 1) (2 ^ (min (Int.toNat 4) 64)))) ∧ bsplit (decide ((n44 + 1) ≥ (4 + (Int.fdiv (n49 + 1) (2 ^ (min (Int.toNat 4) 64))))))
    (bsplit (decide ((n49 + 1) < (((s1.size : Int) - (s2.size : Int)) + 1)))
    (0 ≤ (n49 + 1) ∧ (n49 + 1) ≤ (s1.size : Int) ∧ (s1.size : Int) ≤ (s1.size : Int) ∧
    FnH Tryd.prog N_internal_bytealg_IndexRabinKarp_string #[.string (ByteArray.extract s1 (Int.toNat (n49 + 1)) (Int.toNat (s1.size : Int))), .string s2] h50 fun v74 h73 => ∃ (n75 : Int), v74 = (.int .i64 n75) ∧
    bsplit (decide (n75 < 0))
    (R (.int .i64 (-1)) h73)
    (I64 ((n49 + 1) + n75) ∧ R (.int .i64 ((n49 + 1) + n75)) h73))
    (∃ k48, k48 < i47 ∧ Iv46 k48 (n49 + 1) (n44 + 1) h50))
    (∃ k48, k48 < i47 ∧ Iv46 k48 (n49 + 1) (n44 + 1) h50))
    (∃ k48, k48 < i47 ∧ Iv46 k48 (n49 + 1) (n44 + 1) h50)))) → J51 n49 h50) → 0 ≤ n43 ∧ n43 < (s1.size : Nat) ∧ bsplit ((byteAt s1 n43) != (byteAt s2 0))
    (I64 (n43 + 1) ∧ 0 ≤ (n43 + 1) ∧ (n43 + 1) ≤ (((s1.size : Int) - (s2.size : Int)) + 1) ∧ (((s1.size : Int) - (s2.size : Int)) + 1) ≤ (s1.size : Int) ∧
    FnH Tryd.prog N_internal_stringslite_IndexByte #[.string (ByteArray.extract s1 (Int.toNat (n43 + 1)) (Int.toNat (((s1.size : Int) - (s2.size : Int)) + 1))), .int .u8 (byteAt s2 0)] h45 fun v77 h76 =>
    ∃ (n78 : Int), v77 = (.int .i64 n78) ∧ bsplit (decide (n78 < 0))
    (R (.int .i64 (-1)) h76)
    (I64 (n78 + 1) ∧ I64 (n43 + (n78 + 1)) ∧ J51 (n43 + (n78 + 1)) h76))
    (J51 n43 h45))
    (R (.int .i64 (-1)) h45)))))))
theorem F_internal_stringslite_Index.calls (s1 : ByteArray) (s2 : ByteArray) (h : Hp) (R : Value → Hp → Prop) (H : F_internal_stringslite_Index s1 s2 h R) : FnH Tryd.prog N_internal_stringslite_Index #[.string s1, .string s2] h R :=
  vcFn_calls [(99999, 99999)] Tryd.func101 (.seq .none (.seq .none (.seq .none (.seq .none (.seq .none (.seq .none (.seq .none (.seq .none (.seq (.block (.loop ⟨[0, 1, 5, 6, 7, 9], [], [(8, false, [.int .i64]), (10, false, [.int .i64])], []⟩ (.seq .none (.block (.join ⟨[0, 1, 5, 6, 7, 9, 10], [], [(8, false, [.int .i64])], []⟩ .none .none))))) .none))))))))) [.string s1, .string s2] (Eq.mp (by unfold F_internal_stringslite_Index; kernel_rfl) H)
def F_node_Cut (from_1 : Int) (n_2 : Int) (h : Hp) (R : Value → Hp → Prop) : Prop :=
    bsplit (decide (from_1 < 0))
    (R (.slice none 0 0) h)
    (bsplit (decide (n_2 ≤ 0))
    (R (.slice none 0 0) h)
    (bsplit (decide (from_1 > 4096))
    (R (.slice none 0 0) h)
    (I64 (4096 - from_1) ∧ bsplit (decide (n_2 > (4096 - from_1)))
    (R (.slice none 0 0) h)
    (∃ Iv7 : Nat → Int → Int → Option Addr → Nat → Nat → Hp → Prop, (∃ i8, Iv7 i8 from_1 n_2 none 0 0 h) ∧
    ∀ (i8 : Nat) (from3 : Int) (n4 : Int) (out5 : Option Addr) (out5l out5c : Nat) (h6 : Hp), Iv7 i8 from3 n4 out5 out5l out5c h6 → (bsplit (decide (n4 > 0))
    ((64 : Int) ≠ 0 ∧ I64 (64 - (Int.tmod from3 64)) ∧ (64 : Int) ≠ 0 ∧ I64 (Int.tdiv from3 64) ∧
    HNew h6 (.cells #[.int .i64 (Int.tdiv from3 64), .int .i64 (Int.tmod from3 64), .int .i64 (imin n4 (64 - (Int.tmod from3 64)))] T_a3_int) fun b10 h11 =>
    HApp (tyOf T_a3_int) T_a3_int h11 out5 out5l out5c (.slice (some (⟨b10, 0, none⟩)) 1 1) fun a13 a13l a13c h12 => I64 (from3 + (imin n4 (64 - (Int.tmod from3 64)))) ∧ I64 (n4 - (imin n4 (64 - (Int.tmod from3 64)))) ∧
    ∃ k9, k9 < i8 ∧ Iv7 k9 (from3 + (imin n4 (64 - (Int.tmod from3 64)))) (n4 - (imin n4 (64 - (Int.tmod from3 64)))) a13 a13l a13c h12)
    (R (.slice out5 out5l out5c) h6))))))
theorem F_node_Cut.calls (from_1 : Int) (n_2 : Int) (h : Hp) (R : Value → Hp → Prop) (H : F_node_Cut from_1 n_2 h R) : FnH Tryd.prog N_node_Cut #[.int .i64 from_1, .int .i64 n_2] h R :=
  vcFn_calls [(99999, 99999)] Tryd.func102 (.seq .none (.seq .none (.seq .none (.seq (.block (.loop ⟨[], [], [(0, false, [.int .i64]), (1, false, [.int .i64]), (5, false, [.slice])], []⟩ .none)) .none)))) [.int .i64 from_1, .int .i64 n_2] (Eq.mp (by unfold F_node_Cut; kernel_rfl) H)
def F_files_block (v_1 : Option Addr) (ino_2 : Int) (n_3 : Int) (h : Hp) (R : Value → Hp → Prop) : Prop :=
    FnH Tryd.prog N_keys_Block #[.int .u32 ino_2, .int .i64 n_3] h fun v5 h4 => ∃ (s6 : ByteArray), v5 = (.string s6) ∧ FnH Tryd.prog N_view_View_Look #[.pointer v_1, .string s6] h4 fun v8 h7 =>
    ∃ (s9 : ByteArray) (b10 : Bool), v8 = (.tuple #[.string s9, .bool b10]) ∧ 0 ≤ (64 : Int) ∧ (64 : Int) ≤ 64 ∧ (1 : Int) * 64 ≤ 281474976710656 ∧ (1 : Nat) ≠ 0 ∧
    HNew h7 (.cells (repl (Int.toNat 64) [.int .u8 0]).toArray T_uint8) fun b11 h12 => HCopy (tyOf T_uint8) h12 (some (⟨b11, 0, none⟩)) (Int.toNat 64) (.string s9) fun n14 h13 =>
    R (.slice (some (⟨b11, 0, none⟩)) (Int.toNat 64) (Int.toNat 64)) h13
theorem F_files_block.calls (v_1 : Option Addr) (ino_2 : Int) (n_3 : Int) (h : Hp) (R : Value → Hp → Prop) (H : F_files_block v_1 ino_2 n_3 h R) : FnH Tryd.prog N_files_block #[.pointer v_1, .int .u32 ino_2, .int .i64 n_3] h R :=
  vcFn_calls [(99999, 99999)] Tryd.func103 .none [.pointer v_1, .int .u32 ino_2, .int .i64 n_3] (Eq.mp (by unfold F_files_block; kernel_rfl) H)
def F_unicode_utf8_decodeRuneInStringSlow (s1 : ByteArray) (h : Hp) (R : Value → Hp → Prop) : Prop :=
    bsplit (decide ((s1.size : Int) < 1))
    (R (.tuple #[.int .i32 65533, .int .i64 0]) h)
    (0 ≤ (0 : Int) ∧ (0 : Int) < (s1.size : Nat) ∧ 0 ≤ (byteAt s1 0) ∧ (byteAt s1 0) < (256 : Nat) ∧ ∃ (n2 : Int), At h (Addr.add (⟨1, 0, none⟩) ((Int.toNat (byteAt s1 0)) * 1)) [.int .u8 n2] ∧ bsplit (decide (n2 ≥ 240))
    (0 ≤ (31 : Int) ∧ 0 ≤ (31 : Int) ∧ 0 ≤ (0 : Int) ∧ (0 : Int) < (s1.size : Nat) ∧
    R (.tuple #[.int .i32 (bitsV .or .i32 (bitsV .andNot .i32 (IntKind.i32.wrap (byteAt s1 0)) (Int.fdiv (IntKind.i32.wrap ((IntKind.i32.wrap n2) * 2 ^ (min (Int.toNat 31) 32))) (2 ^ (min (Int.toNat 31) 32)))) (bitsV .and .i32 65533 (Int.fdiv (IntKind.i32.wrap ((IntKind.i32.wrap n2) * 2 ^ (min (Int.toNat 31) 32))) (2 ^ (min (Int.toNat 31) 32))))), .int .i64 1]) h)
    (0 ≤ (4 : Int) ∧ 0 ≤ (Int.fdiv n2 (2 ^ (min (Int.toNat 4) 8))) ∧ (Int.fdiv n2 (2 ^ (min (Int.toNat 4) 8))) < (16 : Nat) ∧
    ∃ (n3 : Int) (n4 : Int), At h (Addr.add (⟨2, 0, none⟩) ((Int.toNat (Int.fdiv n2 (2 ^ (min (Int.toNat 4) 8)))) * 2)) [.int .u8 n3, .int .u8 n4] ∧ bsplit (decide ((s1.size : Int) < (IntKind.i64.wrap (bitsV .and .u8 n2 7))))
    (R (.tuple #[.int .i32 65533, .int .i64 1]) h)
    (0 ≤ (1 : Int) ∧ (1 : Int) < (s1.size : Nat) ∧ bsplit (decide ((byteAt s1 1) < n3))
    (R (.tuple #[.int .i32 65533, .int .i64 1]) h)
    (bsplit (decide (n4 < (byteAt s1 1)))
    (R (.tuple #[.int .i32 65533, .int .i64 1]) h)
    (bsplit (decide ((IntKind.i64.wrap (bitsV .and .u8 n2 7)) ≤ 2))
    (0 ≤ (6 : Int) ∧ R (.tuple #[.int .i32 (bitsV .or .i32 (IntKind.i32.wrap ((IntKind.i32.wrap (bitsV .and .u8 (byteAt s1 0) 31)) * 2 ^ (min (Int.toNat 6) 32))) (IntKind.i32.wrap (bitsV .and .u8 (byteAt s1 1) 63))), .int .i64 2]) h)
    (0 ≤ (2 : Int) ∧ (2 : Int) < (s1.size : Nat) ∧ bsplit (decide ((byteAt s1 2) < 128))
    (R (.tuple #[.int .i32 65533, .int .i64 1]) h)
    (bsplit (decide ((191 : Int) < (byteAt s1 2)))
    (R (.tuple #[.int .i32 65533, .int .i64 1]) h)
    (bsplit (decide ((IntKind.i64.wrap (bitsV .and .u8 n2 7)) ≤ 3))
    (0 ≤ (12 : Int) ∧ 0 ≤ (6 : Int) ∧
    R (.tuple #[.int .i32 (bitsV .or .i32 (bitsV .or .i32 (IntKind.i32.wrap ((IntKind.i32.wrap (bitsV .and .u8 (byteAt s1 0) 15)) * 2 ^ (min (Int.toNat 12) 32))) (IntKind.i32.wrap ((IntKind.i32.wrap (bitsV .and .u8 (byteAt s1 1) 63)) * 2 ^ (min (Int.toNat 6) 32)))) (IntKind.i32.wrap (bitsV .and .u8 (byteAt s1 2) 63))), .int .i64 3]) h)
    (0 ≤ (3 : Int) ∧ (3 : Int) < (s1.size : Nat) ∧ bsplit (decide ((byteAt s1 3) < 128))
    (R (.tuple #[.int .i32 65533, .int .i64 1]) h)
    (bsplit (decide ((191 : Int) < (byteAt s1 3)))
    (R (.tuple #[.int .i32 65533, .int .i64 1]) h)
    (0 ≤ (18 : Int) ∧ 0 ≤ (12 : Int) ∧ 0 ≤ (6 : Int) ∧
    R (.tuple #[.int .i32 (bitsV .or .i32 (bitsV .or .i32 (bitsV .or .i32 (IntKind.i32.wrap ((IntKind.i32.wrap (bitsV .and .u8 (byteAt s1 0) 7)) * 2 ^ (min (Int.toNat 18) 32))) (IntKind.i32.wrap ((IntKind.i32.wrap (bitsV .and .u8 (byteAt s1 1) 63)) * 2 ^ (min (Int.toNat 12) 32)))) (IntKind.i32.wrap ((IntKind.i32.wrap (bitsV .and .u8 (byteAt s1 2) 63)) * 2 ^ (min (Int.toNat 6) 32)))) (IntKind.i32.wrap (bitsV .and .u8 (byteAt s1 3) 63))), .int .i64 4]) h)))))))))))
theorem F_unicode_utf8_decodeRuneInStringSlow.calls (s1 : ByteArray) (h : Hp) (R : Value → Hp → Prop) (H : F_unicode_utf8_decodeRuneInStringSlow s1 h R) : FnH Tryd.prog N_unicode_utf8_decodeRuneInStringSlow #[.string s1] h R :=
  vcFn_calls [(9, 9), (49, 9), (53, 9)] Tryd.func105 .none [.string s1] (Eq.mp (by unfold F_unicode_utf8_decodeRuneInStringSlow; kernel_rfl) H)
def F_internal_stringslite_IndexByte (s_1 : ByteArray) (c_2 : Int) (h : Hp) (R : Value → Hp → Prop) : Prop :=
    R (.int .i64 (idxB s_1 c_2)) h
theorem F_internal_stringslite_IndexByte.calls (s_1 : ByteArray) (c_2 : Int) (h : Hp) (R : Value → Hp → Prop) (H : F_internal_stringslite_IndexByte s_1 c_2 h R) : FnH Tryd.prog N_internal_stringslite_IndexByte #[.string s_1, .int .u8 c_2] h R :=
  vcFn_calls [(99999, 99999)] Tryd.func106 .none [.string s_1, .int .u8 c_2] (Eq.mp (by unfold F_internal_stringslite_IndexByte; kernel_rfl) H)
def F_internal_bytealg_Cutover (n_1 : Int) (h : Hp) (R : Value → Hp → Prop) : Prop :=
    I64 (n_1 + 16) ∧ (8 : Int) ≠ 0 ∧ I64 (Int.tdiv (n_1 + 16) 8) ∧ R (.int .i64 (Int.tdiv (n_1 + 16) 8)) h
theorem F_internal_bytealg_Cutover.calls (n_1 : Int) (h : Hp) (R : Value → Hp → Prop) (H : F_internal_bytealg_Cutover n_1 h R) : FnH Tryd.prog N_internal_bytealg_Cutover #[.int .i64 n_1] h R :=
  vcFn_calls [(99999, 99999)] Tryd.func108 .none [.int .i64 n_1] (Eq.mp (by unfold F_internal_bytealg_Cutover; kernel_rfl) H)
def F_internal_bytealg_IndexRabinKarp_string (s1 : ByteArray) (s2 : ByteArray) (h : Hp) (R : Value → Hp → Prop) : Prop :=
    FnH Tryd.prog N_internal_bytealg_hashStr_string #[.string s2] h fun v4 h3 => ∃ (n5 : Int) (n6 : Int), v4 = (.tuple #[.int .u32 n5, .int .u32 n6]) ∧ ∃ Iv10 : Nat → Int → Int → Hp → Prop, (∃ i11, Iv10 i11 0 0 h3) ∧
    ∀ (i11 : Nat) (n7 : Int) (n8 : Int) (h9 : Hp), Iv10 i11 n7 n8 h9 → (bsplit (decide (n8 < (s2.size : Int)))
    (0 ≤ n8 ∧ n8 < (s1.size : Nat) ∧ I64 (n8 + 1) ∧ ∃ k12, k12 < i11 ∧ Iv10 k12 (IntKind.u32.wrap ((IntKind.u32.wrap (n7 * 16777619)) + (IntKind.u32.wrap (byteAt s1 n8)))) (n8 + 1) h9)
    (bsplit (n7 == n5)
    (0 ≤ (0 : Int) ∧ (0 : Int) ≤ (s2.size : Int) ∧ (s2.size : Int) ≤ (s1.size : Int) ∧ bsplit (decide ((ByteArray.extract s1 (Int.toNat 0) (Int.toNat (s2.size : Int))) = s2))
    (R (.int .i64 0) h9)
    (∃ Iv16 : Nat → Int → Int → Hp → Prop, (∃ i17, Iv16 i17 n7 (s2.size : Int) h9) ∧ ∀ (i17 : Nat) (n13 : Int) (n14 : Int) (h15 : Hp), Iv16 i17 n13 n14 h15 → (bsplit (decide (n14 < (s1.size : Int)))
    (0 ≤ n14 ∧ n14 < (s1.size : Nat) ∧ I64 (n14 - (s2.size : Int)) ∧ 0 ≤ (n14 - (s2.size : Int)) ∧ (n14 - (s2.size : Int)) < (s1.size : Nat) ∧ I64 (n14 + 1) ∧
    bsplit ((IntKind.u32.wrap ((IntKind.u32.wrap ((IntKind.u32.wrap (n13 * 16777619)) + (IntKind.u32.wrap (byteAt s1 n14)))) - (IntKind.u32.wrap (n6 * (IntKind.u32.wrap (byteAt s1 (n14 - (s2.size : Int)))))))) == n5)
    (I64 ((n14 + 1) - (s2.size : Int)) ∧ 0 ≤ ((n14 + 1) - (s2.size : Int)) ∧ ((n14 + 1) - (s2.size : Int)) ≤ (n14 + 1) ∧ (n14 + 1) ≤ (s1.size : Int) ∧
    bsplit (decide ((ByteArray.extract s1 (Int.toNat ((n14 + 1) - (s2.size : Int))) (Int.toNat (n14 + 1))) = s2))
    (I64 ((n14 + 1) - (s2.size : Int)) ∧ R (.int .i64 ((n14 + 1) - (s2.size : Int))) h15)
    (∃ k18, k18 < i17 ∧
    Iv16 k18 (IntKind.u32.wrap ((IntKind.u32.wrap ((IntKind.u32.wrap (n13 * 16777619)) + (IntKind.u32.wrap (byteAt s1 n14)))) - (IntKind.u32.wrap (n6 * (IntKind.u32.wrap (byteAt s1 (n14 - (s2.size : Int)))))))) (n14 + 1) h15))
    (∃ k18, k18 < i17 ∧
    Iv16 k18 (IntKind.u32.wrap ((IntKind.u32.wrap ((IntKind.u32.wrap (n13 * 16777619)) + (IntKind.u32.wrap (byteAt s1 n14)))) - (IntKind.u32.wrap (n6 * (IntKind.u32.wrap (byteAt s1 (n14 - (s2.size : Int)))))))) (n14 + 1) h15))
    (R (.int .i64 (-1)) h15))))
    (∃ Iv22 : Nat → Int → Int → Hp → Prop, (∃ i23, Iv22 i23 n7 (s2.size : Int) h9) ∧ ∀ (i23 : Nat) (n19 : Int) (n20 : Int) (h21 : Hp), Iv22 i23 n19 n20 h21 → (bsplit (decide (n20 < (s1.size : Int)))
    (0 ≤ n20 ∧ n20 < (s1.size : Nat) ∧ I64 (n20 - (s2.size : Int)) ∧ 0 ≤ (n20 - (s2.size : Int)) ∧ (n20 - (s2.size : Int)) < (s1.size : Nat) ∧ I64 (n20 + 1) ∧
    bsplit ((IntKind.u32.wrap ((IntKind.u32.wrap ((IntKind.u32.wrap (n19 * 16777619)) + (IntKind.u32.wrap (byteAt s1 n20)))) - (IntKind.u32.wrap (n6 * (IntKind.u32.wrap (byteAt s1 (n20 - (s2.size : Int)))))))) == n5)
    (I64 ((n20 + 1) - (s2.size : Int)) ∧ 0 ≤ ((n20 + 1) - (s2.size : Int)) ∧ ((n20 + 1) - (s2.size : Int)) ≤ (n20 + 1) ∧ (n20 + 1) ≤ (s1.size : Int) ∧
    bsplit (decide ((ByteArray.extract s1 (Int.toNat ((n20 + 1) - (s2.size : Int))) (Int.toNat (n20 + 1))) = s2))
    (I64 ((n20 + 1) - (s2.size : Int)) ∧ R (.int .i64 ((n20 + 1) - (s2.size : Int))) h21)
    (∃ k24, k24 < i23 ∧
    Iv22 k24 (IntKind.u32.wrap ((IntKind.u32.wrap ((IntKind.u32.wrap (n19 * 16777619)) + (IntKind.u32.wrap (byteAt s1 n20)))) - (IntKind.u32.wrap (n6 * (IntKind.u32.wrap (byteAt s1 (n20 - (s2.size : Int)))))))) (n20 + 1) h21))
    (∃ k24, k24 < i23 ∧
    Iv22 k24 (IntKind.u32.wrap ((IntKind.u32.wrap ((IntKind.u32.wrap (n19 * 16777619)) + (IntKind.u32.wrap (byteAt s1 n20)))) - (IntKind.u32.wrap (n6 * (IntKind.u32.wrap (byteAt s1 (n20 - (s2.size : Int)))))))) (n20 + 1) h21))
    (R (.int .i64 (-1)) h21)))))
theorem F_internal_bytealg_IndexRabinKarp_string.calls (s1 : ByteArray) (s2 : ByteArray) (h : Hp) (R : Value → Hp → Prop) (H : F_internal_bytealg_IndexRabinKarp_string s1 s2 h R) : FnH Tryd.prog N_internal_bytealg_IndexRabinKarp_string #[.string s1, .string s2] h R :=
  vcFn_calls [(99999, 99999)] Tryd.func109 (.seq .none (.seq .none (.seq .none (.seq .none (.seq (.seq .none (.block (.loop ⟨[0, 1, 5, 6, 7], [], [(8, false, [.int .u32]), (9, false, [.int .i64])], []⟩ .none))) (.seq .none (.seq (.seq .none (.block (.loop ⟨[0, 1, 5, 6, 7], [], [(8, false, [.int .u32]), (10, false, [.int .i64])], []⟩ .none))) .none))))))) [.string s1, .string s2] (Eq.mp (by unfold F_internal_bytealg_IndexRabinKarp_string; kernel_rfl) H)
def F_view_View_Look (v_1 : Option Addr) (key_2 : ByteArray) (h : Hp) (R : Value → Hp → Prop) : Prop :=
    bsplit v_1.isNone
    (R (.tuple #[.string E0, .bool false]) h)
    (ptrM v_1 fun q3 => ∃ (p4 : Option Addr), At h (Addr.add q3 1) [.pointer p4] ∧ FnH Tryd.prog N_tree_Tree_Get #[.pointer p4, .string key_2] h fun v6 h5 => ∃ (s7 : ByteArray) (b8 : Bool), v6 = (.tuple #[.string s7, .bool b8]) ∧
    R (.tuple #[.string s7, .bool b8]) h5)
theorem F_view_View_Look.calls (v_1 : Option Addr) (key_2 : ByteArray) (h : Hp) (R : Value → Hp → Prop) (H : F_view_View_Look v_1 key_2 h R) : FnH Tryd.prog N_view_View_Look #[.pointer v_1, .string key_2] h R :=
  vcFn_calls [(99999, 99999)] Tryd.func110 .none [.pointer v_1, .string key_2] (Eq.mp (by unfold F_view_View_Look; kernel_rfl) H)
def F_keys_Block (ino_1 : Int) (n_2 : Int) (h : Hp) (R : Value → Hp → Prop) : Prop :=
    bsplit (decide (n_2 < 0))
    (R (.string E0) h)
    (bsplit (decide (n_2 > 65535))
    (R (.string E0) h)
    (FnH Tryd.prog N_keys_of #[.int .u8 68, .int .u32 ino_1] h fun v4 h3 => ∃ (a5 : Option Addr) (a5l a5c : Nat), v4 = (.slice a5 a5l a5c) ∧
    FnH Tryd.prog N_pack_Put #[.slice a5 a5l a5c, .int .i64 2, .int .u64 (IntKind.u64.wrap n_2)] h3 fun v7 h6 => ∃ (a8 : Option Addr) (a8l a8c : Nat), v7 = (.slice a8 a8l a8c) ∧ ∃ s9 : ByteArray, Bytes h6 a8 a8l s9 ∧
    R (.string s9) h6))
theorem F_keys_Block.calls (ino_1 : Int) (n_2 : Int) (h : Hp) (R : Value → Hp → Prop) (H : F_keys_Block ino_1 n_2 h R) : FnH Tryd.prog N_keys_Block #[.int .u32 ino_1, .int .i64 n_2] h R :=
  vcFn_calls [(99999, 99999)] Tryd.func111 .none [.int .u32 ino_1, .int .i64 n_2] (Eq.mp (by unfold F_keys_Block; kernel_rfl) H)
def F_internal_bytealg_hashStr_string (sep_1 : ByteArray) (h : Hp) (R : Value → Hp → Prop) : Prop :=
    ∃ Iv5 : Nat → Int → Int → Hp → Prop, (∃ i6, Iv5 i6 0 0 h) ∧ ∀ (i6 : Nat) (hash2 : Int) (i3 : Int) (h4 : Hp), Iv5 i6 hash2 i3 h4 → (bsplit (decide (i3 < (sep_1.size : Int)))
    (0 ≤ i3 ∧ i3 < (sep_1.size : Nat) ∧ I64 (i3 + 1) ∧ ∃ k7, k7 < i6 ∧ Iv5 k7 (IntKind.u32.wrap ((IntKind.u32.wrap (hash2 * 16777619)) + (IntKind.u32.wrap (byteAt sep_1 i3)))) (i3 + 1) h4)
    (∃ Iv12 : Nat → Int → Int → Int → Hp → Prop, (∃ i13, Iv12 i13 1 16777619 (sep_1.size : Int) h4) ∧ ∀ (i13 : Nat) (pow8 : Int) (sq9 : Int) (i10 : Int) (h11 : Hp), Iv12 i13 pow8 sq9 i10 h11 → (bsplit (decide (i10 > 0))
    (bsplit ((bitsV .and .i64 i10 1) != 0)
    (0 ≤ (1 : Int) ∧ ∃ k14, k14 < i13 ∧ Iv12 k14 (IntKind.u32.wrap (pow8 * sq9)) (IntKind.u32.wrap (sq9 * sq9)) (Int.fdiv i10 (2 ^ (min (Int.toNat 1) 64))) h11)
    (0 ≤ (1 : Int) ∧ ∃ k14, k14 < i13 ∧ Iv12 k14 pow8 (IntKind.u32.wrap (sq9 * sq9)) (Int.fdiv i10 (2 ^ (min (Int.toNat 1) 64))) h11))
    (R (.tuple #[.int .u32 hash2, .int .u32 pow8]) h11))))
theorem F_internal_bytealg_hashStr_string.calls (sep_1 : ByteArray) (h : Hp) (R : Value → Hp → Prop) (H : F_internal_bytealg_hashStr_string sep_1 h R) : FnH Tryd.prog N_internal_bytealg_hashStr_string #[.string sep_1] h R :=
  vcFn_calls [(99999, 99999)] Tryd.func113 (.seq .none (.seq .none (.seq (.seq .none (.block (.loop ⟨[0], [], [(4, false, [.int .u32]), (5, false, [.int .i64])], []⟩ .none))) (.seq .none (.seq (.seq .none (.block (.loop ⟨[4], [], [(6, false, [.int .u32]), (7, false, [.int .u32]), (8, false, [.int .i64])], []⟩ .none))) .none))))) [.string sep_1] (Eq.mp (by unfold F_internal_bytealg_hashStr_string; kernel_rfl) H)
def F_gosem_cut_vars  (h : Hp) (R : Value → Hp → Prop) : Prop :=
    HSt h (⟨2, 0, none⟩) [.int .u8 128, .int .u8 191, .int .u8 160, .int .u8 191, .int .u8 128, .int .u8 159, .int .u8 144, .int .u8 191, .int .u8 128, .int .u8 143, .int .u8 0, .int .u8 0, .int .u8 0, .int .u8 0, .int .u8 0, .int .u8 0, .int .u8 0, .int .u8 0, .int .u8 0, .int .u8 0, .int .u8 0, .int .u8 0, .int .u8 0, .int .u8 0, .int .u8 0, .int .u8 0, .int .u8 0, .int .u8 0, .int .u8 0, .int .u8 0, .int .u8 0, .int .u8 0] fun h1 => R (.tuple #[]) h1
theorem F_gosem_cut_vars.calls  (h : Hp) (R : Value → Hp → Prop) (H : F_gosem_cut_vars  h R) : FnH Tryd.prog N_gosem_cut_vars #[] h R :=
  vcFn_calls [(99999, 99999)] Tryd.func135 .none [] (Eq.mp (by unfold F_gosem_cut_vars; kernel_rfl) H)
end Go.Proofs.YtkhfofnglkekoaaDoor
