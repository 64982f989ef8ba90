/- XP2: several texts in one. Conditions: each lemma's own. -/
import Derived.Test.YtnifgfnhcjhodaaP1
import Derived.Test.YtnifgfnhcjhodaaQG
import Derived.Test.YtnifgfnhcjhodaaX3
import Derived.Test.YtnifgfnhcjhodaaXR

namespace Go.Proofs.Ytnifgfnhcjhodaa
set_option linter.unusedVariables false
set_option linter.unusedSimpArgs false
section
open Go.Conc Go.RowKit

theorem OwnG.chgUp2 {w w' : World} {lo hi lo' hi' : Nat} {a : Option Addr} {n c : Nat} {f : List (List Int)} (h : OwnG w lo hi a n c f) (hc : Chg lo' hi' w w') (hB : hi ≤ lo') : OwnG w' lo hi a n c f := by
  obtain ⟨vs, h1, h2, h3, h4, h5⟩ := h
  refine ⟨vs, Own.same h1 (fun g hg => ?_), h2, fun k v xs hv hx => (h3 k v xs hv hx).same (fun g hg => ?_), h4, h5⟩
  · exact hc.2.2.2.2 g (World.ownsRow.lt h1 g hg).2 (.inl (Nat.lt_of_lt_of_le (h5 g hg) hB))
  · have hr := h3 k v xs hv hx
    have hlt := (hr.lt g hg).2
    obtain ⟨_, _, _, rfl, _, r⟩ := hr
    exact hc.2.2.2.2 g hlt (.inl (Nat.lt_of_lt_of_le (r g hg).1 hB))
theorem Gx.ownG {u u' : World} {lo hi : Nat} {a : Option Addr} {n c : Nat} {f : List (List Int)} (g : Gx u u') (h : OwnG u lo hi a n c f) : OwnG u' lo hi a n c f := by have := h.ext0 g.ext; exact this
theorem Gx.ownI {u u' : World} {B : Nat} {a : Option Addr} {n c : Nat} {xs : List Int} (g : Gx u u') (h : OwnI u B a n c xs) : OwnI u' B a n c xs := by have := h.ext0 g.ext; exact this
theorem Gx.of_chg {u v w : World} {lo hi : Nat} (h : Gx u v) (hc : Chg lo hi v w) (hl : u.heap.size ≤ lo) : Gx u w :=
  h.chg hc.1 hc.2.2.1 hc.2.2.2.1 fun i hi => hc.2.2.2.2 i (Nat.lt_of_lt_of_le hi h.size) (.inl (Nat.lt_of_lt_of_le hi hl))
theorem Gx.of_grown {u v w : World} {r : Option Nat} (h : Gx u v) (hg : v.grownBy w r) (hr : ∀ k, r = some k → u.heap.size ≤ k) : Gx u w :=
  h.chg hg.os hg.output hg.size fun i hi => hg.block i (Nat.lt_of_lt_of_le hi h.size) fun e => by have := hr i e.symm; omega
/-- A row that lies below the one that is marked. -/
theorem OwnI.under {v w : World} {B R : Nat} {a : Option Addr} {n c : Nat} {xs : List Int} {r : Option Nat} (h : OwnI v B a n c xs) (hb : ∀ k, (Value.slice a n c).ownBlock = some k → k < R) (hg : v.grownBy w r) (hr : ∀ k, r = some k → R ≤ k) : OwnI w B a n c xs :=
  Own.same h fun g hgb => hg.block g (World.ownsRow.lt h g hgb).2 fun e => by have h1 := hb g hgb; have h2 := hr g e.symm; omega
end

section
open Go.Conc Go.RowKit

set_option maxHeartbeats 4000000 in
set_option maxRecDepth 10000 in
theorem arr156 {motive : Array Value → Prop} (k : ∀ e0 e1 e2 e3 e4 e5 e6 e7 e8 e9 e10 e11 e12 e13 e14 e15 e16 e17 e18 e19 e20 e21 e22 e23 e24 e25 e26 e27 e28 e29 e30 e31 e32 e33 e34 e35 e36 e37 e38 e39 e40 e41 e42 e43 e44 e45 e46 e47 e48 e49 e50 e51 e52 e53 e54 e55 e56 e57 e58 e59 e60 e61 e62 e63 e64 e65 e66 e67 e68 e69 e70 e71 e72 e73 e74 e75 e76 e77 e78 e79 e80 e81 e82 e83 e84 e85 e86 e87 e88 e89 e90 e91 e92 e93 e94 e95 e96 e97 e98 e99 e100 e101 e102 e103 e104 e105 e106 e107 e108 e109 e110 e111 e112 e113 e114 e115 e116 e117 e118 e119 e120 e121 e122 e123 e124 e125 e126 e127 e128 e129 e130 e131 e132 e133 e134 e135 e136 e137 e138 e139 e140 e141 e142 e143 e144 e145 e146 e147 e148 e149 e150 e151 e152 e153 e154 e155 : Value, motive #[e0, e1, e2, e3, e4, e5, e6, e7, e8, e9, e10, e11, e12, e13, e14, e15, e16, e17, e18, e19, e20, e21, e22, e23, e24, e25, e26, e27, e28, e29, e30, e31, e32, e33, e34, e35, e36, e37, e38, e39, e40, e41, e42, e43, e44, e45, e46, e47, e48, e49, e50, e51, e52, e53, e54, e55, e56, e57, e58, e59, e60, e61, e62, e63, e64, e65, e66, e67, e68, e69, e70, e71, e72, e73, e74, e75, e76, e77, e78, e79, e80, e81, e82, e83, e84, e85, e86, e87, e88, e89, e90, e91, e92, e93, e94, e95, e96, e97, e98, e99, e100, e101, e102, e103, e104, e105, e106, e107, e108, e109, e110, e111, e112, e113, e114, e115, e116, e117, e118, e119, e120, e121, e122, e123, e124, e125, e126, e127, e128, e129, e130, e131, e132, e133, e134, e135, e136, e137, e138, e139, e140, e141, e142, e143, e144, e145, e146, e147, e148, e149, e150, e151, e152, e153, e154, e155]) : ∀ T : Array Value, T.size = 156 → motive T := by
  intro T h
  obtain ⟨l⟩ := T
  have h : l.length = 156 := h
  obtain ⟨e0, l0, rfl, h0⟩ := lcons h
  obtain ⟨e1, l1, rfl, h1⟩ := lcons h0
  obtain ⟨e2, l2, rfl, h2⟩ := lcons h1
  obtain ⟨e3, l3, rfl, h3⟩ := lcons h2
  obtain ⟨e4, l4, rfl, h4⟩ := lcons h3
  obtain ⟨e5, l5, rfl, h5⟩ := lcons h4
  obtain ⟨e6, l6, rfl, h6⟩ := lcons h5
  obtain ⟨e7, l7, rfl, h7⟩ := lcons h6
  obtain ⟨e8, l8, rfl, h8⟩ := lcons h7
  obtain ⟨e9, l9, rfl, h9⟩ := lcons h8
  obtain ⟨e10, l10, rfl, h10⟩ := lcons h9
  obtain ⟨e11, l11, rfl, h11⟩ := lcons h10
  obtain ⟨e12, l12, rfl, h12⟩ := lcons h11
  obtain ⟨e13, l13, rfl, h13⟩ := lcons h12
  obtain ⟨e14, l14, rfl, h14⟩ := lcons h13
  obtain ⟨e15, l15, rfl, h15⟩ := lcons h14
  obtain ⟨e16, l16, rfl, h16⟩ := lcons h15
  obtain ⟨e17, l17, rfl, h17⟩ := lcons h16
  obtain ⟨e18, l18, rfl, h18⟩ := lcons h17
  obtain ⟨e19, l19, rfl, h19⟩ := lcons h18
  obtain ⟨e20, l20, rfl, h20⟩ := lcons h19
  obtain ⟨e21, l21, rfl, h21⟩ := lcons h20
  obtain ⟨e22, l22, rfl, h22⟩ := lcons h21
  obtain ⟨e23, l23, rfl, h23⟩ := lcons h22
  obtain ⟨e24, l24, rfl, h24⟩ := lcons h23
  obtain ⟨e25, l25, rfl, h25⟩ := lcons h24
  obtain ⟨e26, l26, rfl, h26⟩ := lcons h25
  obtain ⟨e27, l27, rfl, h27⟩ := lcons h26
  obtain ⟨e28, l28, rfl, h28⟩ := lcons h27
  obtain ⟨e29, l29, rfl, h29⟩ := lcons h28
  obtain ⟨e30, l30, rfl, h30⟩ := lcons h29
  obtain ⟨e31, l31, rfl, h31⟩ := lcons h30
  obtain ⟨e32, l32, rfl, h32⟩ := lcons h31
  obtain ⟨e33, l33, rfl, h33⟩ := lcons h32
  obtain ⟨e34, l34, rfl, h34⟩ := lcons h33
  obtain ⟨e35, l35, rfl, h35⟩ := lcons h34
  obtain ⟨e36, l36, rfl, h36⟩ := lcons h35
  obtain ⟨e37, l37, rfl, h37⟩ := lcons h36
  obtain ⟨e38, l38, rfl, h38⟩ := lcons h37
  obtain ⟨e39, l39, rfl, h39⟩ := lcons h38
  obtain ⟨e40, l40, rfl, h40⟩ := lcons h39
  obtain ⟨e41, l41, rfl, h41⟩ := lcons h40
  obtain ⟨e42, l42, rfl, h42⟩ := lcons h41
  obtain ⟨e43, l43, rfl, h43⟩ := lcons h42
  obtain ⟨e44, l44, rfl, h44⟩ := lcons h43
  obtain ⟨e45, l45, rfl, h45⟩ := lcons h44
  obtain ⟨e46, l46, rfl, h46⟩ := lcons h45
  obtain ⟨e47, l47, rfl, h47⟩ := lcons h46
  obtain ⟨e48, l48, rfl, h48⟩ := lcons h47
  obtain ⟨e49, l49, rfl, h49⟩ := lcons h48
  obtain ⟨e50, l50, rfl, h50⟩ := lcons h49
  obtain ⟨e51, l51, rfl, h51⟩ := lcons h50
  obtain ⟨e52, l52, rfl, h52⟩ := lcons h51
  obtain ⟨e53, l53, rfl, h53⟩ := lcons h52
  obtain ⟨e54, l54, rfl, h54⟩ := lcons h53
  obtain ⟨e55, l55, rfl, h55⟩ := lcons h54
  obtain ⟨e56, l56, rfl, h56⟩ := lcons h55
  obtain ⟨e57, l57, rfl, h57⟩ := lcons h56
  obtain ⟨e58, l58, rfl, h58⟩ := lcons h57
  obtain ⟨e59, l59, rfl, h59⟩ := lcons h58
  obtain ⟨e60, l60, rfl, h60⟩ := lcons h59
  obtain ⟨e61, l61, rfl, h61⟩ := lcons h60
  obtain ⟨e62, l62, rfl, h62⟩ := lcons h61
  obtain ⟨e63, l63, rfl, h63⟩ := lcons h62
  obtain ⟨e64, l64, rfl, h64⟩ := lcons h63
  obtain ⟨e65, l65, rfl, h65⟩ := lcons h64
  obtain ⟨e66, l66, rfl, h66⟩ := lcons h65
  obtain ⟨e67, l67, rfl, h67⟩ := lcons h66
  obtain ⟨e68, l68, rfl, h68⟩ := lcons h67
  obtain ⟨e69, l69, rfl, h69⟩ := lcons h68
  obtain ⟨e70, l70, rfl, h70⟩ := lcons h69
  obtain ⟨e71, l71, rfl, h71⟩ := lcons h70
  obtain ⟨e72, l72, rfl, h72⟩ := lcons h71
  obtain ⟨e73, l73, rfl, h73⟩ := lcons h72
  obtain ⟨e74, l74, rfl, h74⟩ := lcons h73
  obtain ⟨e75, l75, rfl, h75⟩ := lcons h74
  obtain ⟨e76, l76, rfl, h76⟩ := lcons h75
  obtain ⟨e77, l77, rfl, h77⟩ := lcons h76
  obtain ⟨e78, l78, rfl, h78⟩ := lcons h77
  obtain ⟨e79, l79, rfl, h79⟩ := lcons h78
  obtain ⟨e80, l80, rfl, h80⟩ := lcons h79
  obtain ⟨e81, l81, rfl, h81⟩ := lcons h80
  obtain ⟨e82, l82, rfl, h82⟩ := lcons h81
  obtain ⟨e83, l83, rfl, h83⟩ := lcons h82
  obtain ⟨e84, l84, rfl, h84⟩ := lcons h83
  obtain ⟨e85, l85, rfl, h85⟩ := lcons h84
  obtain ⟨e86, l86, rfl, h86⟩ := lcons h85
  obtain ⟨e87, l87, rfl, h87⟩ := lcons h86
  obtain ⟨e88, l88, rfl, h88⟩ := lcons h87
  obtain ⟨e89, l89, rfl, h89⟩ := lcons h88
  obtain ⟨e90, l90, rfl, h90⟩ := lcons h89
  obtain ⟨e91, l91, rfl, h91⟩ := lcons h90
  obtain ⟨e92, l92, rfl, h92⟩ := lcons h91
  obtain ⟨e93, l93, rfl, h93⟩ := lcons h92
  obtain ⟨e94, l94, rfl, h94⟩ := lcons h93
  obtain ⟨e95, l95, rfl, h95⟩ := lcons h94
  obtain ⟨e96, l96, rfl, h96⟩ := lcons h95
  obtain ⟨e97, l97, rfl, h97⟩ := lcons h96
  obtain ⟨e98, l98, rfl, h98⟩ := lcons h97
  obtain ⟨e99, l99, rfl, h99⟩ := lcons h98
  obtain ⟨e100, l100, rfl, h100⟩ := lcons h99
  obtain ⟨e101, l101, rfl, h101⟩ := lcons h100
  obtain ⟨e102, l102, rfl, h102⟩ := lcons h101
  obtain ⟨e103, l103, rfl, h103⟩ := lcons h102
  obtain ⟨e104, l104, rfl, h104⟩ := lcons h103
  obtain ⟨e105, l105, rfl, h105⟩ := lcons h104
  obtain ⟨e106, l106, rfl, h106⟩ := lcons h105
  obtain ⟨e107, l107, rfl, h107⟩ := lcons h106
  obtain ⟨e108, l108, rfl, h108⟩ := lcons h107
  obtain ⟨e109, l109, rfl, h109⟩ := lcons h108
  obtain ⟨e110, l110, rfl, h110⟩ := lcons h109
  obtain ⟨e111, l111, rfl, h111⟩ := lcons h110
  obtain ⟨e112, l112, rfl, h112⟩ := lcons h111
  obtain ⟨e113, l113, rfl, h113⟩ := lcons h112
  obtain ⟨e114, l114, rfl, h114⟩ := lcons h113
  obtain ⟨e115, l115, rfl, h115⟩ := lcons h114
  obtain ⟨e116, l116, rfl, h116⟩ := lcons h115
  obtain ⟨e117, l117, rfl, h117⟩ := lcons h116
  obtain ⟨e118, l118, rfl, h118⟩ := lcons h117
  obtain ⟨e119, l119, rfl, h119⟩ := lcons h118
  obtain ⟨e120, l120, rfl, h120⟩ := lcons h119
  obtain ⟨e121, l121, rfl, h121⟩ := lcons h120
  obtain ⟨e122, l122, rfl, h122⟩ := lcons h121
  obtain ⟨e123, l123, rfl, h123⟩ := lcons h122
  obtain ⟨e124, l124, rfl, h124⟩ := lcons h123
  obtain ⟨e125, l125, rfl, h125⟩ := lcons h124
  obtain ⟨e126, l126, rfl, h126⟩ := lcons h125
  obtain ⟨e127, l127, rfl, h127⟩ := lcons h126
  obtain ⟨e128, l128, rfl, h128⟩ := lcons h127
  obtain ⟨e129, l129, rfl, h129⟩ := lcons h128
  obtain ⟨e130, l130, rfl, h130⟩ := lcons h129
  obtain ⟨e131, l131, rfl, h131⟩ := lcons h130
  obtain ⟨e132, l132, rfl, h132⟩ := lcons h131
  obtain ⟨e133, l133, rfl, h133⟩ := lcons h132
  obtain ⟨e134, l134, rfl, h134⟩ := lcons h133
  obtain ⟨e135, l135, rfl, h135⟩ := lcons h134
  obtain ⟨e136, l136, rfl, h136⟩ := lcons h135
  obtain ⟨e137, l137, rfl, h137⟩ := lcons h136
  obtain ⟨e138, l138, rfl, h138⟩ := lcons h137
  obtain ⟨e139, l139, rfl, h139⟩ := lcons h138
  obtain ⟨e140, l140, rfl, h140⟩ := lcons h139
  obtain ⟨e141, l141, rfl, h141⟩ := lcons h140
  obtain ⟨e142, l142, rfl, h142⟩ := lcons h141
  obtain ⟨e143, l143, rfl, h143⟩ := lcons h142
  obtain ⟨e144, l144, rfl, h144⟩ := lcons h143
  obtain ⟨e145, l145, rfl, h145⟩ := lcons h144
  obtain ⟨e146, l146, rfl, h146⟩ := lcons h145
  obtain ⟨e147, l147, rfl, h147⟩ := lcons h146
  obtain ⟨e148, l148, rfl, h148⟩ := lcons h147
  obtain ⟨e149, l149, rfl, h149⟩ := lcons h148
  obtain ⟨e150, l150, rfl, h150⟩ := lcons h149
  obtain ⟨e151, l151, rfl, h151⟩ := lcons h150
  obtain ⟨e152, l152, rfl, h152⟩ := lcons h151
  obtain ⟨e153, l153, rfl, h153⟩ := lcons h152
  obtain ⟨e154, l154, rfl, h154⟩ := lcons h153
  obtain ⟨e155, l155, rfl, h155⟩ := lcons h154
  obtain rfl := List.length_eq_zero_iff.1 h155
  exact k e0 e1 e2 e3 e4 e5 e6 e7 e8 e9 e10 e11 e12 e13 e14 e15 e16 e17 e18 e19 e20 e21 e22 e23 e24 e25 e26 e27 e28 e29 e30 e31 e32 e33 e34 e35 e36 e37 e38 e39 e40 e41 e42 e43 e44 e45 e46 e47 e48 e49 e50 e51 e52 e53 e54 e55 e56 e57 e58 e59 e60 e61 e62 e63 e64 e65 e66 e67 e68 e69 e70 e71 e72 e73 e74 e75 e76 e77 e78 e79 e80 e81 e82 e83 e84 e85 e86 e87 e88 e89 e90 e91 e92 e93 e94 e95 e96 e97 e98 e99 e100 e101 e102 e103 e104 e105 e106 e107 e108 e109 e110 e111 e112 e113 e114 e115 e116 e117 e118 e119 e120 e121 e122 e123 e124 e125 e126 e127 e128 e129 e130 e131 e132 e133 e134 e135 e136 e137 e138 e139 e140 e141 e142 e143 e144 e145 e146 e147 e148 e149 e150 e151 e152 e153 e154 e155
end
end Go.Proofs.Ytnifgfnhcjhodaa
